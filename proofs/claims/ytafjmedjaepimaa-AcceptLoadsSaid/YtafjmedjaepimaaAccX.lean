/-
  One call on an acceptor and on the document's: Prepare and Forget.
-/
import Derived.Test.YtafjmedjaepimaaAccW
import Derived.Deep.RegionHeld3
namespace Go.Proofs.Ytafjmedjaepimaa.accx
open Go.ChangeShapes Go.WideShapes Go.ChangeAt Go.RowKit Go.Joins
open Go.Proofs.Ytafjmedjaepimaa.kit Go.Proofs.Ytafjmedjaepimaa.mapkit Go.Proofs.Ytafjmedjaepimaa.byt Go.Proofs.Ytafjmedjaepimaa.own Go.Proofs.Ytafjmedjaepimaa.accd Go.Proofs.Ytafjmedjaepimaa.acca Go.Proofs.Ytafjmedjaepimaa.accb Go.Proofs.Ytafjmedjaepimaa.acck Go.Proofs.Ytafjmedjaepimaa.acce Go.Proofs.Ytafjmedjaepimaa.accf Go.Proofs.Ytafjmedjaepimaa.accg Go.Proofs.Ytafjmedjaepimaa.acch Go.Proofs.Ytafjmedjaepimaa.acci Go.Proofs.Ytafjmedjaepimaa.accj Go.Proofs.Ytafjmedjaepimaa.accr Go.Proofs.Ytafjmedjaepimaa.accl Go.Proofs.Ytafjmedjaepimaa.acct Go.Proofs.Ytafjmedjaepimaa.accu Go.Proofs.Ytafjmedjaepimaa.accv Go.Proofs.Ytafjmedjaepimaa.accw
set_option linter.unusedVariables false
set_option linter.unusedSimpArgs false
set_option maxHeartbeats 4000000
set_option maxRecDepth 100000

theorem blk5 {w : World} {b : Nat} {x y z u t : Value} {T : TypeId} (h : w.heap[b]? = some (.cells #[x, y, z, u, t] T (0, 0))) : w.cell? ⟨b, 0, none⟩ = some x ∧ w.cell? ⟨b, 1, none⟩ = some y ∧ w.cell? ⟨b, 2, none⟩ = some z ∧ w.cell? ⟨b, 3, none⟩ = some u ∧ w.cell? ⟨b, 4, none⟩ = some t ∧ b < w.heap.size := by
  obtain ⟨h1, h2, h3⟩ := kit.blk h
  exact ⟨h1 0, h1 1, h1 2, h1 3, h1 4, h3⟩
/-- A block of another type stays. -/
theorem op_acc {W W' : World} {base b mb pb : Nat} {A : AS} {cs : Array Value} (hA : AccIs W base b mb A) (hp : W.heap[pb]? = some (.cells cs 31 (0, 0))) (hk : Keep (fun k => k = b ∨ k = mb) W W') : W'.heap[pb]? = some (.cells cs 31 (0, 0)) := by
  obtain ⟨vs, hA1, -⟩ := hA
  refine (hk.block pb (kit.blk hp).2.2 (fun hx => ?_)).trans hp
  rcases hx with hx | hx
  · have e := hA1.blk
    rw [← hx, hp] at e
    simp at e
  · obtain ⟨es, cl, hm⟩ := hA1.map.obj
    rw [← hx, hp] at hm
    simp at hm
theorem op_ref {w0 W W' : World} {lo br pb : Nat} {R : AS} {cs : Array Value} (hR : RefAt w0 W lo br R) (hp : W.heap[pb]? = some (.cells cs 31 (0, 0))) (hk : Keep (fun k => k = br) W W') : W'.heap[pb]? = some (.cells cs 31 (0, 0)) := by
  obtain ⟨-, a, c, zs, hblk, -⟩ := hR
  refine (hk.block pb (kit.blk hp).2.2 (fun hx => ?_)).trans hp
  have hx : pb = br := hx
  rw [← hx, hp] at hblk
  simp at hblk
theorem rd_old {w W : World} {zs : List Vt} (h : ∀ x ∈ zs, Rd w x) (hb : Below w.heap.size w W) : ∀ x ∈ zs, Rd W x := fun x hx => (h x hx).below hb

theorem step_1 (w W : World) (b mb br : Nat) (A : AS) (o : OpV) (T : TwoS w W b mb br A) (hk1 : o.kind = 1) :
    Calls Try.prog 20 #[.pointer (some ⟨b, 0, none⟩), .pointer (some ⟨br, 0, none⟩), .agg #[.int .i64 o.kind, .int .i64 o.s, .int .i64 o.r, .int .i64 o.n, .slice o.ad o.l.length o.c]] W fun e w' => e = .returned (.bool true) ∧ TwoS w w' b mb br (opS A o) := by
  rw [opS_1 A o hk1]
  rw [hk1]
  obtain ⟨w1, hw1⟩ : ∃ w1 : World, w1 = W.alloc (.cells #[.int .i64 1, .int .i64 o.s, .int .i64 o.r, .int .i64 o.n, .slice o.ad o.l.length o.c] 31) := ⟨_, rfl⟩
  have hb1 : Below W.heap.size W w1 := by rw [hw1]; exact below_new1 _ _
  have hn1 : w1.heap[W.heap.size]? = some (.cells #[.int .i64 1, .int .i64 o.s, .int .i64 o.r, .int .i64 o.n, .slice o.ad o.l.length o.c] 31 (0, 0)) := by rw [hw1]; exact hp_alloc_new _ _
  obtain ⟨pb, hpb⟩ : ∃ pb, pb = W.heap.size := ⟨_, rfl⟩
  rw [← hpb] at hn1
  have HPB := Lib.hid hpb
  have HW := Lib.hid hw1
  have HN1 := Lib.hid hn1
  have HT1 := Lib.hid (T.old hb1)
  have hlen := is_len T.acc
  have hlob := T.lob
  have hbrl := T.ref.hlo
  have HC := Lib.hid (prepare_ok w1 w.heap.size b mb A o.r o.n o.s HT1.out.acc)
  obtain ⟨x0, x1, x2, x3, x4, xz⟩ := blk5 hn1
  clear hw1 hb1 hn1 hpb T
  go_enter Try.func20, Try.ntmps20
  go_upto_region 1 with fail
  rw [← HW.out, ← HPB.out]
  go_wp2_with fail
  refine HC.out.mono ?_; rintro e w2 ⟨v2, rfl, ht, hA2, hk2⟩
  have hR2 := RefAt.acc HT1.out.ref HT1.out.acc hk2
  have hB2 := HT1.out.below.trans (keep_below hk2 HT1.out.below.size hlob.1 hlob.2)
  have hn2 := op_acc HT1.out.acc HN1.out hk2
  have HC2 := Lib.hid (rprepare_ok w w2 w.heap.size br A o.r o.n o.s hR2 hlen)
  have hrow : ∃ xs, RowV w2 v2 xs ∧ xs.map lv = (if prepE A o.r o.n = 0 then from4 A.vs o.s else []) := by
    by_cases hE : prepE A o.r o.n = 0
    · rw [Tells, if_pos hE] at ht
      obtain ⟨xs, h1, h2, -⟩ := told_row ht (fun x hx => is_fit HT1.out.acc x (mem_from4.1 hx).1)
      exact ⟨xs, h1, by rw [if_pos hE]; exact h2⟩
    · rw [Tells, if_neg hE] at ht
      exact ⟨[], by rw [ht]; exact ⟨⟨0, none, 0, rfl, World.ownsRow_nil _ _ _ _⟩, by simp⟩, by rw [if_neg hE]; rfl⟩
  obtain ⟨xs, hxr, hxs⟩ := hrow
  have HA2 := Lib.hid hA2
  have HR2 := Lib.hid hR2
  have HB2 := Lib.hid hB2
  have HN2 := Lib.hid hn2
  have HXR := Lib.hid hxr
  have HXS := Lib.hid hxs
  obtain ⟨y0, y1, y2, y3, y4, yz⟩ := blk5 hn2
  clear ht hA2 hk2 hR2 hB2 hn2 hxr hxs HC x0 x1 x2 x3 x4 xz
  go_wp2_with fail
  refine HC2.out.mono ?_; rintro e w3 ⟨v3, rfl, hf, hR3, hk3⟩
  have HA3 := Lib.hid (AccIs.ref HA2.out HR2.out hk3)
  have hB3 := HB2.out.trans (keep_br_below hk3 HB2.out.size hbrl)
  have hX3 := RowV.ref HXR.out HR2.out hk3
  have hz : ∃ zs, RowV w3 v3 zs ∧ zs.map lv = (if prepE A o.r o.n = 0 then from4 A.vs o.s else []) := by
    by_cases hE : prepE A o.r o.n = 0
    · rw [if_pos hE] at hf
      obtain ⟨az, cz, zs, rfl, h1, h2, h3⟩ := hf
      exact ⟨zs, ⟨⟨_, az, cz, rfl, h1⟩, rd_old h3 hB3⟩, by rw [if_pos hE]; exact h2⟩
    · rw [if_neg hE] at hf
      exact ⟨[], by rw [hf]; exact ⟨⟨0, none, 0, rfl, World.ownsRow_nil _ _ _ _⟩, by simp⟩, by rw [if_neg hE]; rfl⟩
  obtain ⟨zs, hzr, hzs⟩ := hz
  have HT3 : Hid (TwoS w w3 b mb br (prepS A o.r o.n)) := ⟨HA3.out, hR3, hB3, hlob⟩
  have HS := Lib.hid (votes_eq w3 v2 v3 xs zs hX3 hzr (HXS.out.trans hzs.symm))
  obtain ⟨E, hE⟩ : ∃ E, E = prepE A o.r o.n := ⟨_, rfl⟩
  rw [← hE]
  clear hf hR3 hk3 hB3 hX3 hzr hzs hE HC2 y0 y1 y2 y3 y4 yz
  go_wp2_with fail
  refine HS.out.mono ?_; rintro e w4 ⟨rfl, hb4⟩
  have HT4 := Lib.hid (HT3.out.old hb4)
  clear hb4 HS
  go_wp2_with fail
  go_ret
  exact ⟨by first | rfl | simp, HT4.out⟩

theorem step_2 (w W : World) (b mb br : Nat) (A : AS) (o : OpV) (T : TwoS w W b mb br A) (hk2 : o.kind = 2) :
    Calls Try.prog 20 #[.pointer (some ⟨b, 0, none⟩), .pointer (some ⟨br, 0, none⟩), .agg #[.int .i64 o.kind, .int .i64 o.s, .int .i64 o.r, .int .i64 o.n, .slice o.ad o.l.length o.c]] W fun e w' => e = .returned (.bool true) ∧ TwoS w w' b mb br (opS A o) := by
  rw [opS_2 A o hk2]
  rw [hk2]
  obtain ⟨w1, hw1⟩ : ∃ w1 : World, w1 = W.alloc (.cells #[.int .i64 2, .int .i64 o.s, .int .i64 o.r, .int .i64 o.n, .slice o.ad o.l.length o.c] 31) := ⟨_, rfl⟩
  have hb1 : Below W.heap.size W w1 := by rw [hw1]; exact below_new1 _ _
  have hn1 : w1.heap[W.heap.size]? = some (.cells #[.int .i64 2, .int .i64 o.s, .int .i64 o.r, .int .i64 o.n, .slice o.ad o.l.length o.c] 31 (0, 0)) := by rw [hw1]; exact hp_alloc_new _ _
  obtain ⟨pb, hpb⟩ : ∃ pb, pb = W.heap.size := ⟨_, rfl⟩
  rw [← hpb] at hn1
  have HPB := Lib.hid hpb
  have HW := Lib.hid hw1
  have hbd : Below w1.heap.size w1 w1.drew := below_drewN (Below.refl _ _) 1
  have HT1 := Lib.hid ((T.old hb1).old hbd)
  have HN1 := Lib.hid (hp_step hn1 hbd)
  have hlen := is_len T.acc
  have hlob := T.lob
  have hbrl := T.ref.hlo
  have HC := Lib.hid (forget_ok w1.drew w.heap.size b mb A o.s HT1.out.acc)
  have HRF := Lib.hid (fun (wx : World) (hR : RefAt w wx w.heap.size br A) (hs : w.heap.size ≤ wx.heap.size) => rforget_ok w wx w.heap.size br A o.s hR hlen hs)
  obtain ⟨x0, x1, x2, x3, x4, xz⟩ := blk5 hn1
  obtain ⟨E, hE⟩ : ∃ E, E = forgetE A o.s := ⟨_, rfl⟩
  rw [← hE] at HC HRF
  clear hw1 hb1 hn1 hpb T hbd hE
  go_enter Try.func20, Try.ntmps20
  go_upto_region 1 with fail
  rw [← HW.out, ← HPB.out]
  go_wp2_with fail
  go_region_held3 (fun w' => w'.cell? ⟨pb, 1, none⟩ = some (.int .i64 o.s)) (first | (exact x1) | (exact y1) | (exact z1)) (first | (go_at_call 13; refine HC.out.mono ?_; rintro e w2 ⟨rfl, hA2, hk2⟩; have hR2 := RefAt.acc HT1.out.ref HT1.out.acc hk2; have hB2 := HT1.out.below.trans (keep_below hk2 HT1.out.below.size hlob.1 hlob.2); have hn2 := op_acc HT1.out.acc HN1.out hk2; have HC2 := Lib.hid (HRF.out w2 hR2 hB2.size); have HA2 := Lib.hid hA2; have HR2 := Lib.hid hR2; have HB2 := Lib.hid hB2; have HN2 := Lib.hid hn2; obtain ⟨y0, y1, y2, y3, y4, yz⟩ := blk5 hn2; clear hA2 hk2 hR2 hB2 hn2) | (go_at_call 39; refine HC2.out.mono ?_; rintro e w3 ⟨rfl, hR3, hk3⟩; have HT3 := Lib.hid (⟨AccIs.ref HA2.out HR2.out hk3, hR3, HB2.out.trans (keep_br_below hk3 HB2.out.size hbrl), hlob⟩ : TwoS w w3 b mb br (forgetS A o.s)); obtain ⟨z0, z1, z2, z3, z4, zz⟩ := blk5 (op_ref HR2.out HN2.out hk3); clear hR3 hk3))
  go_wp2_with fail
  go_ret
  exact ⟨by first | rfl | simp, HT3.out⟩
end Go.Proofs.Ytafjmedjaepimaa.accx
