/-
  One call on an acceptor and on the document's, where the document's votes lie in memory of a later world.
-/
import Derived.Test.YtafjmedjaepimaaAccY
namespace Go.Proofs.Ytafjmedjaepimaa.accq
open Go.ChangeShapes Go.WideShapes Go.ChangeAt Go.RowKit Go.Joins
open Go.Proofs.Ytafjmedjaepimaa.kit Go.Proofs.Ytafjmedjaepimaa.mapkit Go.Proofs.Ytafjmedjaepimaa.byt Go.Proofs.Ytafjmedjaepimaa.own Go.Proofs.Ytafjmedjaepimaa.accd Go.Proofs.Ytafjmedjaepimaa.acca Go.Proofs.Ytafjmedjaepimaa.accb Go.Proofs.Ytafjmedjaepimaa.acck Go.Proofs.Ytafjmedjaepimaa.acce Go.Proofs.Ytafjmedjaepimaa.accf Go.Proofs.Ytafjmedjaepimaa.accg Go.Proofs.Ytafjmedjaepimaa.acch Go.Proofs.Ytafjmedjaepimaa.acci Go.Proofs.Ytafjmedjaepimaa.accj Go.Proofs.Ytafjmedjaepimaa.accr Go.Proofs.Ytafjmedjaepimaa.accl Go.Proofs.Ytafjmedjaepimaa.acct Go.Proofs.Ytafjmedjaepimaa.accu Go.Proofs.Ytafjmedjaepimaa.accv Go.Proofs.Ytafjmedjaepimaa.accw Go.Proofs.Ytafjmedjaepimaa.accx Go.Proofs.Ytafjmedjaepimaa.accy
set_option linter.unusedVariables false
set_option linter.unusedSimpArgs false
set_option maxHeartbeats 4000000
set_option maxRecDepth 100000

/-- A vote can be read while an acceptor turns; while the document's turns. -/
theorem is_rd {w w' : World} {base b mb : Nat} {A : AS} (h : AccIs w base b mb A) (hk : Keep (fun k => k = b ∨ k = mb) w w') {x : Vt} (hx : Rd w x) : Rd w' x := by
  obtain ⟨vs, h1, -⟩ := h
  exact acc_rd h1 hk hx
theorem ref_rd {v w w' : World} {lo br : Nat} {R : AS} (h : RefAt v w lo br R) (hk : Keep (fun k => k = br) w w') {x : Vt} (hx : Rd w x) : Rd w' x := by
  obtain ⟨-, a, c, zs, hblk, -⟩ := h
  exact ⟨lie_ref hblk ⟨⟨_, rfl⟩, ⟨_, rfl⟩, ⟨_, rfl⟩, ⟨_, _, _, rfl⟩⟩ hk hx.lie, hx.nil, hx.len⟩
/-- Bytes lie in none of the three blocks. -/
theorem lie_three {v W W' : World} {base b mb br : Nat} {A R : AS} (hA : AccIs W base b mb A) (hR : RefAt v W base br R) (hk : Keep (fun k => k = b ∨ k = mb ∨ k = br) W W') {a : Option Addr} {l : List Nat} (hl : Lie W a (bcells l)) : Lie W' a (bcells l) := by
  obtain ⟨vs, hA1, -⟩ := hA
  obtain ⟨-, a3, c3, zs, hblk, -⟩ := hR
  rcases hl with hl | ⟨g, off, h1, h2, h3⟩
  · exact .inl hl
  · by_cases hz : l = []
    · exact .inl (by rw [hz]; rfl)
    · have hpos : 0 < l.length := List.length_pos_iff.2 hz
      have h0 := h3 0 (by rw [bcells_len]; exact hpos)
      rw [bcells_get hpos, Nat.add_zero] at h0
      refine .inr ⟨g, off, h1, Nat.lt_of_lt_of_le h2 hk.size, fun i hi => (hk.cell (p := ⟨g, off + i, none⟩) h2 (fun hx => ?_)).trans (h3 i hi)⟩
      rcases hx with hx | hx | hx
      · have hx : g = b := hx
        subst hx
        rw [(kit.blk hA1.blk).1 off] at h0
        rcases off with _ | _ | _ | _ | off <;> simp at h0
      · have hx : g = mb := hx
        subst hx
        obtain ⟨es, cl, hm⟩ := hA1.map.obj
        simp [World.cell?, hm] at h0
      · have hx : g = br := hx
        subst hx
        rw [(kit.blk hblk).1 off] at h0
        rcases off with _ | _ | _ | _ | off <;> simp at h0
theorem rd_three {v W W' : World} {base b mb br : Nat} {A R : AS} (hA : AccIs W base b mb A) (hR : RefAt v W base br R) (hk : Keep (fun k => k = b ∨ k = mb ∨ k = br) W W') {x : Vt} (hx : Rd W x) : Rd W' x := ⟨lie_three hA hR hk hx.lie, hx.nil, hx.len⟩
/-- Both, alike; what can be read in v can be read. -/
structure TwoL (w v W : World) (b mb br : Nat) (A : AS) : Prop where
  acc : AccIs W w.heap.size b mb A
  ref : RefAt v W w.heap.size br A
  below : Below w.heap.size w W
  lob : w.heap.size ≤ b ∧ w.heap.size ≤ mb
  rd : ∀ x, Rd v x → Rd W x
  wv : Below w.heap.size w v
theorem TwoL.old {w v W W' : World} {b mb br : Nat} {A : AS} (h : TwoL w v W b mb br A) (hb : Below W.heap.size W W') : TwoL w v W' b mb br A := ⟨AccIs.below h.acc hb, h.ref.below hb, below_step h.below hb, h.lob, fun x hx => (h.rd x hx).below hb, h.wv⟩
theorem step_1 (w v W : World) (b mb br : Nat) (A : AS) (o : OpV) (T : TwoL w v W b mb br A) (hk1 : o.kind = 1) :
    Calls Try.prog 20 #[.pointer (some ⟨b, 0, none⟩), .pointer (some ⟨br, 0, none⟩), .agg #[.int .i64 o.kind, .int .i64 o.s, .int .i64 o.r, .int .i64 o.n, .slice o.ad o.l.length o.c]] W fun e w' => e = .returned (.bool true) ∧ TwoL w v w' b mb br (opS A o) := by
  rw [opS_1 A o hk1]
  rw [hk1]
  obtain ⟨w1, hw1⟩ : ∃ w1 : World, w1 = W.alloc (.cells #[.int .i64 1, .int .i64 o.s, .int .i64 o.r, .int .i64 o.n, .slice o.ad o.l.length o.c] 31) := ⟨_, rfl⟩
  have hb1 : Below W.heap.size W w1 := by rw [hw1]; exact below_new1 _ _
  have hn1 : w1.heap[W.heap.size]? = some (.cells #[.int .i64 1, .int .i64 o.s, .int .i64 o.r, .int .i64 o.n, .slice o.ad o.l.length o.c] 31 (0, 0)) := by rw [hw1]; exact hp_alloc_new _ _
  obtain ⟨pb, hpb⟩ : ∃ pb, pb = W.heap.size := ⟨_, rfl⟩
  rw [← hpb] at hn1
  have HPB := Lib.hid hpb
  have HW := Lib.hid hw1
  have HN1 := Lib.hid hn1
  have HT1 := Lib.hid (T.old hb1)
  have hlen := is_len T.acc
  have hlob := T.lob
  have hbrl := T.ref.hlo
  have HC := Lib.hid (prepare_ok w1 w.heap.size b mb A o.r o.n o.s HT1.out.acc)
  obtain ⟨x0, x1, x2, x3, x4, xz⟩ := blk5 hn1
  clear hw1 hb1 hn1 hpb T
  go_enter Try.func20, Try.ntmps20
  go_upto_region 1 with fail
  rw [← HW.out, ← HPB.out]
  go_wp2_with fail
  refine HC.out.mono ?_; rintro e w2 ⟨v2, rfl, ht, hA2, hk2⟩
  have hR2 := RefAt.acc HT1.out.ref HT1.out.acc hk2
  have hB2 := HT1.out.below.trans (keep_below hk2 HT1.out.below.size hlob.1 hlob.2)
  have hn2 := op_acc HT1.out.acc HN1.out hk2
  have HC2 := Lib.hid (rprepare_ok v w2 w.heap.size br A o.r o.n o.s hR2 hlen)
  have HRD2 := Lib.hid (fun x (hx : Rd v x) => is_rd HT1.out.acc hk2 (HT1.out.rd x hx))
  have hrow : ∃ xs, RowV w2 v2 xs ∧ xs.map lv = (if prepE A o.r o.n = 0 then from4 A.vs o.s else []) := by
    by_cases hE : prepE A o.r o.n = 0
    · rw [Tells, if_pos hE] at ht
      obtain ⟨xs, h1, h2, -⟩ := told_row ht (fun x hx => is_fit HT1.out.acc x (mem_from4.1 hx).1)
      exact ⟨xs, h1, by rw [if_pos hE]; exact h2⟩
    · rw [Tells, if_neg hE] at ht
      exact ⟨[], by rw [ht]; exact ⟨⟨0, none, 0, rfl, World.ownsRow_nil _ _ _ _⟩, by simp⟩, by rw [if_neg hE]; rfl⟩
  obtain ⟨xs, hxr, hxs⟩ := hrow
  have HA2 := Lib.hid hA2
  have HR2 := Lib.hid hR2
  have HB2 := Lib.hid hB2
  have HN2 := Lib.hid hn2
  have HXR := Lib.hid hxr
  have HXS := Lib.hid hxs
  obtain ⟨y0, y1, y2, y3, y4, yz⟩ := blk5 hn2
  clear ht hA2 hk2 hR2 hB2 hn2 hxr hxs HC x0 x1 x2 x3 x4 xz
  go_wp2_with fail
  refine HC2.out.mono ?_; rintro e w3 ⟨v3, rfl, hf, hR3, hk3⟩
  have HA3 := Lib.hid (AccIs.ref HA2.out HR2.out hk3)
  have hB3 := HB2.out.trans (keep_br_below hk3 HB2.out.size hbrl)
  have HRD3 := Lib.hid (fun x (hx : Rd v x) => ref_rd HR2.out hk3 (HRD2.out x hx))
  have hX3 := RowV.ref HXR.out HR2.out hk3
  have hz : ∃ zs, RowV w3 v3 zs ∧ zs.map lv = (if prepE A o.r o.n = 0 then from4 A.vs o.s else []) := by
    by_cases hE : prepE A o.r o.n = 0
    · rw [if_pos hE] at hf
      obtain ⟨az, cz, zs, rfl, h1, h2, h3⟩ := hf
      exact ⟨zs, ⟨⟨_, az, cz, rfl, h1⟩, fun x hx => HRD3.out x (h3 x hx)⟩, by rw [if_pos hE]; exact h2⟩
    · rw [if_neg hE] at hf
      exact ⟨[], by rw [hf]; exact ⟨⟨0, none, 0, rfl, World.ownsRow_nil _ _ _ _⟩, by simp⟩, by rw [if_neg hE]; rfl⟩
  obtain ⟨zs, hzr, hzs⟩ := hz
  have HT3 : Hid (TwoL w v w3 b mb br (prepS A o.r o.n)) := ⟨HA3.out, hR3, hB3, hlob, HRD3.out, HT1.out.wv⟩
  have HS := Lib.hid (votes_eq w3 v2 v3 xs zs hX3 hzr (HXS.out.trans hzs.symm))
  obtain ⟨E, hE⟩ : ∃ E, E = prepE A o.r o.n := ⟨_, rfl⟩
  rw [← hE]
  clear hf hR3 hk3 hB3 hX3 hzr hzs hE HC2 y0 y1 y2 y3 y4 yz
  go_wp2_with fail
  refine HS.out.mono ?_; rintro e w4 ⟨rfl, hb4⟩
  have HT4 := Lib.hid (HT3.out.old hb4)
  clear hb4 HS
  go_wp2_with fail
  go_ret
  exact ⟨by first | rfl | simp, HT4.out⟩

theorem step_2 (w v W : World) (b mb br : Nat) (A : AS) (o : OpV) (T : TwoL w v W b mb br A) (hk2 : o.kind = 2) :
    Calls Try.prog 20 #[.pointer (some ⟨b, 0, none⟩), .pointer (some ⟨br, 0, none⟩), .agg #[.int .i64 o.kind, .int .i64 o.s, .int .i64 o.r, .int .i64 o.n, .slice o.ad o.l.length o.c]] W fun e w' => e = .returned (.bool true) ∧ TwoL w v w' b mb br (opS A o) := by
  rw [opS_2 A o hk2]
  rw [hk2]
  obtain ⟨w1, hw1⟩ : ∃ w1 : World, w1 = W.alloc (.cells #[.int .i64 2, .int .i64 o.s, .int .i64 o.r, .int .i64 o.n, .slice o.ad o.l.length o.c] 31) := ⟨_, rfl⟩
  have hb1 : Below W.heap.size W w1 := by rw [hw1]; exact below_new1 _ _
  have hn1 : w1.heap[W.heap.size]? = some (.cells #[.int .i64 2, .int .i64 o.s, .int .i64 o.r, .int .i64 o.n, .slice o.ad o.l.length o.c] 31 (0, 0)) := by rw [hw1]; exact hp_alloc_new _ _
  obtain ⟨pb, hpb⟩ : ∃ pb, pb = W.heap.size := ⟨_, rfl⟩
  rw [← hpb] at hn1
  have HPB := Lib.hid hpb
  have HW := Lib.hid hw1
  have hbd : Below w1.heap.size w1 w1.drew := below_drewN (Below.refl _ _) 1
  have HT1 := Lib.hid ((T.old hb1).old hbd)
  have HN1 := Lib.hid (hp_step hn1 hbd)
  have hlen := is_len T.acc
  have hlob := T.lob
  have hbrl := T.ref.hlo
  have HC := Lib.hid (forget_ok w1.drew w.heap.size b mb A o.s HT1.out.acc)
  have HRF := Lib.hid (fun (wx : World) (hR : RefAt v wx w.heap.size br A) (hs : w.heap.size ≤ wx.heap.size) => rforget_ok v wx w.heap.size br A o.s hR hlen hs)
  obtain ⟨x0, x1, x2, x3, x4, xz⟩ := blk5 hn1
  obtain ⟨E, hE⟩ : ∃ E, E = forgetE A o.s := ⟨_, rfl⟩
  rw [← hE] at HC HRF
  clear hw1 hb1 hn1 hpb T hbd hE
  go_enter Try.func20, Try.ntmps20
  go_upto_region 1 with fail
  rw [← HW.out, ← HPB.out]
  go_wp2_with fail
  go_region_held3 (fun w' => w'.cell? ⟨pb, 1, none⟩ = some (.int .i64 o.s)) (first | (exact x1) | (exact y1) | (exact z1)) (first | (go_at_call 13; refine HC.out.mono ?_; rintro e w2 ⟨rfl, hA2, hk2⟩; have hR2 := RefAt.acc HT1.out.ref HT1.out.acc hk2; have HRD2 := Lib.hid (fun x (hx : Rd v x) => is_rd HT1.out.acc hk2 (HT1.out.rd x hx)); have hB2 := HT1.out.below.trans (keep_below hk2 HT1.out.below.size hlob.1 hlob.2); have hn2 := op_acc HT1.out.acc HN1.out hk2; have HC2 := Lib.hid (HRF.out w2 hR2 hB2.size); have HA2 := Lib.hid hA2; have HR2 := Lib.hid hR2; have HB2 := Lib.hid hB2; have HN2 := Lib.hid hn2; obtain ⟨y0, y1, y2, y3, y4, yz⟩ := blk5 hn2; clear hA2 hk2 hR2 hB2 hn2) | (go_at_call 39; refine HC2.out.mono ?_; rintro e w3 ⟨rfl, hR3, hk3⟩; have HT3 := Lib.hid (⟨AccIs.ref HA2.out HR2.out hk3, hR3, HB2.out.trans (keep_br_below hk3 HB2.out.size hbrl), hlob, fun x hx => ref_rd HR2.out hk3 (HRD2.out x hx), HT1.out.wv⟩ : TwoL w v w3 b mb br (forgetS A o.s)); obtain ⟨z0, z1, z2, z3, z4, zz⟩ := blk5 (op_ref HR2.out HN2.out hk3); clear hR3 hk3))
  go_wp2_with fail
  go_ret
  exact ⟨by first | rfl | simp, HT3.out⟩
/-- While the copy is overwritten. -/
structure Wr (w v Ws W : World) (b mb br : Nat) (A : AS) (g vb n : Nat) (cs : Array Value) : Prop where
  acc : AccOff W w.heap.size b mb A (fun k => k = g)
  ref : RefAt v W w.heap.size br A
  kp : Keep (fun k => k = b ∨ k = mb ∨ k = br) Ws W
  below : Below w.heap.size w W
  blk : ∃ us : Array Value, W.heap[g]? = some (.cells us 5 (0, 0)) ∧ n ≤ us.size
  box : W.heap[vb]? = some (.cells cs 38 (0, 0))
theorem Wr.old {w v Ws W W' : World} {b mb br : Nat} {A : AS} {g vb n : Nat} {cs : Array Value} (h : Wr w v Ws W b mb br A g vb n cs) (hb : Below W.heap.size W W') : Wr w v Ws W' b mb br A g vb n cs := by
  obtain ⟨us, h1, h2⟩ := h.blk
  exact ⟨h.acc.below hb, h.ref.below hb, h.kp.trans (Keep.of_below hb), below_step h.below hb, ⟨us, hp_step h1 hb, h2⟩, hp_step h.box hb⟩
theorem Wr.put {w v Ws W : World} {b mb br : Nat} {A : AS} {g vb n : Nat} {cs : Array Value} (h : Wr w v Ws W b mb br A g vb n cs) (hg : w.heap.size ≤ g) (hgs : Ws.heap.size ≤ g) (k : Nat) (z : Value) : Wr w v Ws (W.setCell ⟨g, k, none⟩ z) b mb br A g vb n cs := by
  obtain ⟨us, h1, h2⟩ := h.blk
  have hne : vb ≠ g := by
    intro e
    have h3 := h.box
    rw [e, h1] at h3
    simp at h3
  exact ⟨AccOff.put h.acc h1 k z, RefAt.put h.ref h1 k z, h.kp.setCell (p := ⟨g, k, none⟩) (.inl hgs) _, h.below.setCell (p := ⟨g, k, none⟩) hg _, ⟨_, hp_set h1 k z, by simpa using h2⟩, (hp_set_ne hne).trans h.box⟩

theorem step_3 (w v W : World) (b mb br : Nat) (A : AS) (o : OpV) (T : TwoL w v W b mb br A) (hk1 : o.kind ≠ 1) (hk2 : o.kind ≠ 2) (hG : GoodO w o) (hol : o.l.length ≤ 140737488351232) :
    Calls Try.prog 20 #[.pointer (some ⟨b, 0, none⟩), .pointer (some ⟨br, 0, none⟩), .agg #[.int .i64 o.kind, .int .i64 o.s, .int .i64 o.r, .int .i64 o.n, .slice o.ad o.l.length o.c]] W fun e w' => e = .returned (.bool true) ∧ TwoL w v w' b mb br (opS A o) := by
  rw [opS_3 A o hk1 hk2]
  have e1 : (o.kind == 1) = false := by simpa using hk1
  have e2 : (o.kind == 2) = false := by simpa using hk2
  obtain ⟨w1, hw1⟩ : ∃ w1 : World, w1 = W.alloc (.cells #[.int .i64 o.kind, .int .i64 o.s, .int .i64 o.r, .int .i64 o.n, .slice o.ad o.l.length o.c] 31) := ⟨_, rfl⟩
  have hb1 : Below W.heap.size W w1 := by rw [hw1]; exact below_new1 _ _
  have hn1 : w1.heap[W.heap.size]? = some (.cells #[.int .i64 o.kind, .int .i64 o.s, .int .i64 o.r, .int .i64 o.n, .slice o.ad o.l.length o.c] 31 (0, 0)) := by rw [hw1]; exact hp_alloc_new _ _
  obtain ⟨pb, hpb⟩ : ∃ pb, pb = W.heap.size := ⟨_, rfl⟩
  rw [← hpb] at hn1
  have HPB := Lib.hid hpb
  have HW := Lib.hid hw1
  have HN1 := Lib.hid hn1
  have HT1 := Lib.hid (T.old hb1)
  have HG := Lib.hid hG
  have hlen := is_len T.acc
  have hone := is_one T.acc
  have hlob := T.lob
  have hbrl := T.ref.hlo
  have HV1 := Lib.hid (vote_ok w1 o)
  obtain ⟨x0, x1, x2, x3, x4, xz⟩ := blk5 hn1
  have hlo1 : o.vt.s = o.s := rfl
  clear hw1 hb1 hn1 hpb T hG hk1 hk2 hlo1
  go_enter Try.func20, Try.ntmps20
  go_upto_region 1 with fail
  rw [← HW.out, ← HPB.out]
  go_wp2_with fail
  refine HV1.out.mono ?_; rintro e w2 ⟨rfl, hb2⟩
  have HT2 := Lib.hid (HT1.out.old hb2)
  have HN2 := Lib.hid (hp_step HN1.out hb2)
  obtain ⟨w3, hw3⟩ : ∃ w3 : World, w3 = w2.alloc (.cells #[.int .i64 o.s, .int .i64 o.r, .int .i64 o.n, .slice o.ad o.l.length o.c] 38) := ⟨_, rfl⟩
  have hb3 : Below w2.heap.size w2 w3 := by rw [hw3]; exact below_new1 _ _
  have hn3 : w3.heap[w2.heap.size]? = some (.cells #[.int .i64 o.s, .int .i64 o.r, .int .i64 o.n, .slice o.ad o.l.length o.c] 38 (0, 0)) := by rw [hw3]; exact hp_alloc_new _ _
  obtain ⟨vb, hvb⟩ : ∃ vb, vb = w2.heap.size := ⟨_, rfl⟩
  rw [← hvb] at hn3
  have HVB := Lib.hid hvb
  have HW3 := Lib.hid hw3
  have HN3 := Lib.hid hn3
  have HB3 := Lib.hid hb3
  have hG3 := HG.out.below (HT2.out.old hb3).below
  have HOW := Lib.hid (own_any o.l 71 o.ad o.c w3 hol hG3.nil hG3.lie)
  clear x0 x1 x2 x3 x4 xz
  obtain ⟨x0, x1, x2, x3, x4, xz⟩ := blk5 (hp_step HN2.out hb3)
  obtain ⟨q0, q1, q2, q3, qz⟩ := blk4 hn3
  simp only [Vt.val, OpV.vt]
  clear hb2 hw3 hb3 hn3 hvb hG3 HV1
  go_upto_region 9 with fail
  rw [← HW3.out, ← HVB.out]
  go_wp2_with fail
  refine HOW.out.mono ?_; rintro e w4 ⟨g, cap, rfl, hown, hb4⟩
  have hgl := (own_from hown g rfl).1
  have hnv : vb ≠ g := by
    intro e
    have h3 := (kit.blk HN3.out).2.2
    omega
  have hb34 : Below w2.heap.size w2 w4 := below_step HB3.out hb4
  have hn4 := hp_step HN3.out hb4
  obtain ⟨m0, m1, m2, m3, mz⟩ := blk4 hn4
  obtain ⟨f0, f1, f2, f3⟩ := blk4f hn4
  obtain ⟨w5, hw5⟩ : ∃ w5 : World, w5 = w4.setCell ⟨vb, 3, none⟩ (.slice (some ⟨g, 0, none⟩) o.l.length cap) := ⟨_, rfl⟩
  have hvb2 : w2.heap.size ≤ vb := by have := HVB.out; omega
  have hb25 : Below w2.heap.size w2 w5 := by rw [hw5]; exact hb34.setCell (p := ⟨vb, 3, none⟩) hvb2 _
  have hn5 : w5.heap[vb]? = some (.cells #[.int .i64 o.s, .int .i64 o.r, .int .i64 o.n, .slice (some ⟨g, 0, none⟩) o.l.length cap] 38 (0, 0)) := by rw [hw5]; exact hp_set hn4 3 _
  have hown5 : OwnRow w5 w3.heap.size g cap o.l 71 := by
    rw [hw5]
    exact own_kept hown (fun j hj => hp_set_ne (by
      have e : j = g := by simpa using hj.symm
      subst e
      exact fun e => hnv e.symm))
  have hs23 := HB3.out.size
  have HK5 : Hid (Keep (fun k => k = b ∨ k = mb ∨ k = br) w2 w5) := Keep.of_below hb25
  have hgs2 : w2.heap.size ≤ g := by omega
  have hoff5 : AccOff w5 w.heap.size b mb A (fun k => k = g) := AccOff.below (AccIs.off HT2.out.acc (fun k hk => by have hk : k = g := hk; omega)) hb25
  have hR5 := HT2.out.ref.below hb25
  have hB5 := below_step HT2.out.below hb25
  have hN5 := hp_step HN2.out hb25
  have hgz5 := (own_from hown5 g rfl).2
  have HA := Lib.hid (accept_off w5 w.heap.size b mb A (fun k => k = g) ⟨o.s, o.r, o.n, o.l, some ⟨g, 0, none⟩, cap⟩ hoff5 (fun k hk => by have hk : k = g := hk; omega) hB5.size ⟨(ownr_lie hown5).1, by simp, (by show o.l.length ≤ _; omega)⟩ HG.out.slot.1 HG.out.slot.2)
  have hlv : lv ⟨o.s, o.r, o.n, o.l, some ⟨g, 0, none⟩, cap⟩ = lv o.vt := rfl
  rw [hlv] at HA
  obtain ⟨E, hE⟩ : ∃ E, E = accE A.r A.n A.first (lv o.vt) := ⟨_, rfl⟩
  rw [← hE] at HA
  have HE := Lib.hid hE
  simp only [Vt.val] at HA
  have HOFF5 := Lib.hid hoff5
  have HR5 := Lib.hid hR5
  have HB5 := Lib.hid hB5
  have HN5 := Lib.hid hN5
  have HVN5 := Lib.hid hn5
  have HOWN5 := Lib.hid hown5
  have HW5 := Lib.hid hw5
  have hgw : w.heap.size ≤ g := by have := HT2.out.below.size; omega
  clear x0 x1 x2 x3 x4 xz q0 q1 q2 q3 qz
  obtain ⟨x0, x1, x2, x3, x4, xz⟩ := blk5 hN5
  obtain ⟨q0, q1, q2, q3, qz⟩ := blk4 hn5
  clear hown hb4 hb34 hn4 hw5 hb25 hn5 hown5 hoff5 hR5 hB5 hN5 hlv hE HOW hvb2 hs23
  go_wp2_with fail
  rw [← HW5.out]
  go_wp2_with fail
  refine HA.out.mono ?_; rintro e w6 ⟨rfl, hoff6, hk6⟩
  have hR6 := RefAt.acc HR5.out HOFF5.out.is hk6
  have hB6 := HB5.out.trans (keep_below hk6 HB5.out.size hlob.1 hlob.2)
  have HK6 := Lib.hid (HK5.out.trans' hk6 (fun i _ h => h.elim .inl (fun h => .inr (.inl h))))
  have hN6 := op_acc HOFF5.out.is HN5.out hk6
  have hVN6 := vb_acc HOFF5.out.is HVN5.out hk6
  have hOW6 := own_acc HOFF5.out.is HOWN5.out hk6
  have HOFF6 := Lib.hid hoff6
  have HR6 := Lib.hid hR6
  have HB6 := Lib.hid hB6
  have HN6 := Lib.hid hN6
  have HVN6 := Lib.hid hVN6
  have HOWN6 := Lib.hid hOW6
  have HV6 := Lib.hid (vote_ok w6 o)
  clear x0 x1 x2 x3 x4 xz q0 q1 q2 q3 qz m0 m1 m2 m3 mz f0 f1 f2 f3
  obtain ⟨x0, x1, x2, x3, x4, xz⟩ := blk5 hN6
  obtain ⟨q0, q1, q2, q3, qz⟩ := blk4 hVN6
  clear hoff6 hk6 hR6 hB6 hN6 hVN6 hOW6 HA
  go_wp2_with fail
  refine HV6.out.mono ?_; rintro e w7 ⟨rfl, hb7⟩
  have HOFF7 := Lib.hid (HOFF6.out.below hb7)
  have HK7 := Lib.hid (HK6.out.trans (Keep.of_below hb7))
  have HR7 := Lib.hid (HR6.out.below hb7)
  have HB7 := Lib.hid (below_step HB6.out hb7)
  have HN7 := Lib.hid (hp_step HN6.out hb7)
  have HVN7 := Lib.hid (hp_step HVN6.out hb7)
  have HOWN7 := Lib.hid (own_below HOWN6.out hb7 : OwnRow w7 _ g cap o.l 71)
  have HRA := Lib.hid (raccept_ok v w7 w.heap.size br A o.vt HR7.out hone hlen HB7.out.size (fun h => ⟨(HG.out.below HT2.out.wv).lie, HG.out.nil, (by have e : o.vt.l = o.l := rfl; rw [e] at h ⊢; omega)⟩) (by show o.l.length ≤ _; omega) HG.out.slot.1 HG.out.slot.2)
  rw [← HE.out] at HRA
  simp only [Vt.val]
  clear hb7 HV6 x0 x1 x2 x3 x4 xz q0 q1 q2 q3 qz
  go_wp2_with fail
  refine HRA.out.mono ?_; rintro e w8 ⟨rfl, hR8, hk8⟩
  have hOFF8 := AccOff.ref HOFF7.out HR7.out hk8
  have hB8 := HB7.out.trans (keep_br_below hk8 HB7.out.size hbrl)
  have HK8 := Lib.hid (HK7.out.trans' hk8 (fun i _ h => .inr (.inr h)))
  have hN8 := op_ref HR7.out HN7.out hk8
  have hVN8 := vb_ref HR7.out HVN7.out hk8
  have hOWN8 := own_ref HR7.out HOWN7.out hk8
  have hG8 := HG.out.below hB8
  have HKE := Lib.hid (kept_any o.l 71 g cap o.ad o.c _ w8 hol hOWN8 hG8.lie)
  have HWR : Hid (Wr w v w2 w8 b mb br (accS A (lv o.vt)) g vb o.l.length #[.int .i64 o.s, .int .i64 o.r, .int .i64 o.n, .slice (some ⟨g, 0, none⟩) o.l.length cap]) := ⟨hOFF8, hR8, HK8.out, hB8, (ownr_lie hOWN8).2, hVN8⟩
  obtain ⟨x0, x1, x2, x3, x4, xz⟩ := blk5 hN8
  obtain ⟨q0, q1, q2, q3, qz⟩ := blk4 hVN8
  clear hR8 hk8 hOFF8 hB8 hN8 hVN8 hOWN8 hG8 HRA
  go_wp2_with fail
  refine HKE.out.mono ?_; rintro e w9 ⟨rfl, hb9⟩
  have HWR9 := Lib.hid (HWR.out.old hb9)
  clear hb9 HKE x0 x1 x2 x3 x4 xz q0 q1 q2 q3 qz
  go_wp2_with fail
  go_loopw [14] (fun i wx => ∃ k : Nat, k ≤ o.l.length ∧ i = .int .i64 k ∧ Hid (Wr w v w2 wx b mb br (accS A (lv o.vt)) g vb o.l.length #[.int .i64 o.s, .int .i64 o.r, .int .i64 o.n, .slice (some ⟨g, 0, none⟩) o.l.length cap])) (fun i _ => o.l.length - (intOf i).toNat)
  case atStart => exact ⟨0, Nat.zero_le _, rfl, HWR9⟩
  case round =>
    obtain ⟨k, hk, rfl, h6⟩ := hrel
    obtain ⟨q0, q1, q2, q3, qz⟩ := blk4 h6.out.box
    by_cases hlt : k < o.l.length
    · obtain ⟨cs, hc1, hc2⟩ := h6.out.blk
      obtain ⟨b0, b1, b2⟩ := kit.blk hc1
      have hget : ∃ v, wr.cell? ⟨g, k, none⟩ = some v := ⟨_, (b0 k).trans (Array.getElem?_eq_getElem (by omega))⟩
      obtain ⟨v, hv⟩ := hget
      have hfz := b1 k
      have HNX := Lib.hid (h6.out.put hgw hgs2 k (.int .u8 98))
      clear b0 b1 hc1
      go_wp2_with fail
      go_roundw
      case rel => exact ⟨k + 1, by omega, by go_num, HNX⟩
      case measure => simp [intOf]; omega
    · obtain rfl : k = o.l.length := by omega
      go_wp2_with fail
      go_ret
      exact ⟨by first | rfl | simp, h6.out.acc.is, h6.out.ref, h6.out.below, hlob, fun x hx => rd_three HT2.out.acc HT2.out.ref h6.out.kp (HT2.out.rd x hx), HT2.out.wv⟩

theorem step_any (w v W : World) (b mb br : Nat) (A : AS) (o : OpV) (T : TwoL w v W b mb br A) (hG : GoodO w o) (hol : o.l.length ≤ 140737488351232) :
    Calls Try.prog 20 #[.pointer (some ⟨b, 0, none⟩), .pointer (some ⟨br, 0, none⟩), .agg #[.int .i64 o.kind, .int .i64 o.s, .int .i64 o.r, .int .i64 o.n, .slice o.ad o.l.length o.c]] W fun e w' => e = .returned (.bool true) ∧ TwoL w v w' b mb br (opS A o) := by
  by_cases h1 : o.kind = 1
  · exact step_1 w v W b mb br A o T h1
  · by_cases h2 : o.kind = 2
    · exact step_2 w v W b mb br A o T h2
    · exact step_3 w v W b mb br A o T h1 h2 hG hol
end Go.Proofs.Ytafjmedjaepimaa.accq
