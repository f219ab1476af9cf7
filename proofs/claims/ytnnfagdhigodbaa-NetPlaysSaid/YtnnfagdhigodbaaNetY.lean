/-
  NetPlays: one call on both nets (printed by wip/mkstep.py).
-/
import Derived.Test.YtnnfagdhigodbaaNetX
import Derived.Deep.RegionHeld3
import Derived.Deep.CutRange
namespace Go.Proofs.Ytnnfagdhigodbaa.nety
open Go.ChangeShapes Go.WideShapes Go.ChangeAt Go.RowKit
open Go.Proofs.Ytnnfagdhigodbaa.kit Go.Proofs.Ytnnfagdhigodbaa.byt Go.Proofs.Ytnnfagdhigodbaa.netc Go.Proofs.Ytnnfagdhigodbaa.netg Go.Proofs.Ytnnfagdhigodbaa.nets Go.Proofs.Ytnnfagdhigodbaa.nett Go.Proofs.Ytnnfagdhigodbaa.nete Go.Proofs.Ytnnfagdhigodbaa.netq Go.Proofs.Ytnnfagdhigodbaa.netr Go.Proofs.Ytnnfagdhigodbaa.netk Go.Proofs.Ytnnfagdhigodbaa.netj Go.Proofs.Ytnnfagdhigodbaa.neth Go.Proofs.Ytnnfagdhigodbaa.netx
set_option linter.unusedVariables false
set_option linter.unusedSimpArgs false
set_option maxHeartbeats 4000000
set_option maxRecDepth 100000

theorem blk4 {w : World} {b : Nat} {x y z u : Value} {T : TypeId} (h : w.heap[b]? = some (.cells #[x, y, z, u] T (0, 0))) : w.cell? ⟨b, 0, none⟩ = some x ∧ w.cell? ⟨b, 1, none⟩ = some y ∧ w.cell? ⟨b, 2, none⟩ = some z ∧ w.cell? ⟨b, 3, none⟩ = some u ∧ b < w.heap.size := by
  obtain ⟨h1, h2, h3⟩ := blk h
  exact ⟨h1 0, h1 1, h1 2, h1 3, h3⟩
/-- What a call on both leaves. -/
def Went (w w' : World) (bn br : Nat) (m : Int) (s : St) (n : Nat) : Prop := ∃ Cs, Two w w' bn br m s.qs s.S Cs ∧ Agree s.S Cs ∧ Cs.length ≤ n

theorem step1 (w wr : World) (bn br : Nat) (m : Int) (qs : List Q) (S Cs : Cuts) (o : OpV) (n : Nat) (T : Two w wr bn br m qs S Cs) (hF : Fit qs) (hag : Agree S Cs) (hcl : Cs.length ≤ n) (hn : n ≤ 3518437208884) (hk : o.kind = 1) :
    Calls Try.prog 19 #[.pointer (some ⟨bn, 0, none⟩), .pointer (some ⟨br, 0, none⟩), .agg #[.int .i64 o.kind, .int .i64 o.a, .int .i64 o.b, .slice o.ad o.l.length o.c]] wr fun e w' => e = .returned (.bool true) ∧ Went w w' bn br m (netr.step m ⟨qs, S⟩ o) (n + 1) := by
  rw [show netr.step m ⟨qs, S⟩ o = ⟨takeQ qs o.a, S⟩ by rw [netr.step, if_pos hk]]
  rw [hk]
  obtain ⟨w1, hw1⟩ : ∃ w1 : World, w1 = wr.alloc (.cells #[.int .i64 1, .int .i64 o.a, .int .i64 o.b, .slice o.ad o.l.length o.c] 42) := ⟨_, rfl⟩
  have hb1 : Below wr.heap.size wr w1 := by rw [hw1]; exact below_new1 _ _
  have hbx : w1.heap[wr.heap.size]? = some (.cells #[.int .i64 1, .int .i64 o.a, .int .i64 o.b, .slice o.ad o.l.length o.c] 42 (0, 0)) := by rw [hw1]; exact hp_alloc_new _ _
  have H1 := Lib.hid (T.half.old hb1)
  have hnew := T.half.new (.cells #[.int .i64 1, .int .i64 o.a, .int .i64 o.b, .slice o.ad o.l.length o.c] 42)
  rw [← hw1] at hnew
  have HX1 := Lib.hid hbx
  have HO1 := Lib.hid hnew
  have HW := Lib.hid hw1
  obtain ⟨x0, x1, x2, x3, xz⟩ := blk4 hbx
  clear hw1 hbx hnew hb1
  have HD := Lib.hid (delu w1 _ _ _ _ _ o.a H1.out.net H1.out.below.size)
  go_enter Try.func19, Try.ntmps19
  go_wp2_with fail
  rw [← HW.out]
  refine HD.out.mono ?_; rintro e w2 ⟨p, rfl, hbp, hqp, hn2, hb2, hm2⟩
  obtain ⟨h2, hu2, hx2⟩ := H1.out.netop hn2 hb2 hm2
  obtain ⟨hxe, hxo⟩ := hx2 _ xz HO1.out.1 HO1.out.2
  obtain ⟨w3, hw3⟩ : ∃ w3 : World, w3 = w2.alloc (.cells #[.int .i64 p.f, .int .i64 p.t, .slice p.a p.l.length p.c] 48) := ⟨_, rfl⟩
  have hb3 : Below w2.heap.size w2 w3 := by rw [hw3]; exact below_new1 _ _
  have H3 := Lib.hid (h2.old hb3)
  have hp3 : w3.heap[w2.heap.size]? = some (.cells #[.int .i64 p.f, .int .i64 p.t, .slice p.a p.l.length p.c] 48 (0, 0)) := by rw [hw3]; exact hp_alloc_new _ _
  have hnew3 := h2.new (.cells #[.int .i64 p.f, .int .i64 p.t, .slice p.a p.l.length p.c] 48)
  rw [← hw3] at hnew3
  have hx3 := hp_step (hxe.trans HX1.out) hb3
  have HX3 := Lib.hid hx3
  have HBP := Lib.hid (own_below hbp hb3 : Body w3 _ p)
  have HQP := Lib.hid hqp
  have HNEW := Lib.hid hnew3
  have HP3 := Lib.hid hp3
  have HW3 := Lib.hid hw3
  have HOX := Lib.hid (out_below h2 hb3 hxo)
  obtain ⟨y0, y1, y2, y3, yz⟩ := blk4 (hxe.trans HX1.out)
  have HT := Lib.hid (rtku w3 _ _ _ _ _ o.a H3.out.ref H3.out.below.size hF.1)
  clear hbp hqp hn2 hb2 hm2 h2 hu2 hx2 hxe hxo hb3 hp3 hnew3 hw3 hx3 HD x0 x1 x2 x3
  simp only [Pkt.val]
  go_wp2_with fail
  rw [← HW3.out]
  refine HT.out.mono ?_; rintro e w4 ⟨r, rfl, hbr, hqr, hn4, hb4, hm4⟩
  obtain ⟨h4, hu4, hx4⟩ := H3.out.refop hn4 hb4 hm4
  obtain ⟨hpe, _⟩ := hx4 _ (Array.getElem?_eq_some_iff.1 HP3.out).1 HNEW.out.1 HNEW.out.2
  obtain ⟨w5, hw5⟩ : ∃ w5 : World, w5 = w4.alloc (.cells #[.int .i64 r.f, .int .i64 r.t, .slice r.a r.l.length r.c] 48) := ⟨_, rfl⟩
  have hb5 : Below w4.heap.size w4 w5 := by rw [hw5]; exact below_new1 _ _
  have H5 := Lib.hid (h4.old hb5)
  obtain ⟨p0, p1, p2, _, _, _, pz⟩ := blk3 (hpe.trans HP3.out)
  have HS := Lib.hid (samep_any w5 p r (body_rd (own_below (body_keep HBP.out hu4) hb5)) (body_rd (own_below hbr hb5)))
  rw [(sameQ_iff _ _).2 (HQP.out.trans hqr.symm)] at HS
  have HW5 := Lib.hid hw5
  simp only [Pkt.val] at HS ⊢
  clear hbr hqr hn4 hb4 hm4 h4 hu4 hx4 hpe hb5 hw5 HT y0 y1 y2 y3
  go_wp2_with fail
  rw [← HW5.out]
  refine HS.out.mono ?_; rintro e w6 ⟨rfl, hb6⟩
  go_wp2_with fail
  go_ret
  exact ⟨by first | rfl | simp, _, (H5.out.old hb6).two, hag, by omega⟩

theorem step2 (w wr : World) (bn br : Nat) (m : Int) (qs : List Q) (S Cs : Cuts) (o : OpV) (n : Nat) (T : Two w wr bn br m qs S Cs) (hF : Fit qs) (hag : Agree S Cs) (hcl : Cs.length ≤ n) (hn : n ≤ 3518437208884) (hk : o.kind = 2) :
    Calls Try.prog 19 #[.pointer (some ⟨bn, 0, none⟩), .pointer (some ⟨br, 0, none⟩), .agg #[.int .i64 o.kind, .int .i64 o.a, .int .i64 o.b, .slice o.ad o.l.length o.c]] wr fun e w' => e = .returned (.bool true) ∧ Went w w' bn br m (netr.step m ⟨qs, S⟩ o) (n + 1) := by
  rw [show netr.step m ⟨qs, S⟩ o = ⟨takeQ qs o.a, S⟩ by rw [netr.step, if_neg (by omega), if_pos hk]]
  rw [hk]
  obtain ⟨w1, hw1⟩ : ∃ w1 : World, w1 = wr.alloc (.cells #[.int .i64 2, .int .i64 o.a, .int .i64 o.b, .slice o.ad o.l.length o.c] 42) := ⟨_, rfl⟩
  have hb1 : Below wr.heap.size wr w1 := by rw [hw1]; exact below_new1 _ _
  have hbx : w1.heap[wr.heap.size]? = some (.cells #[.int .i64 2, .int .i64 o.a, .int .i64 o.b, .slice o.ad o.l.length o.c] 42 (0, 0)) := by rw [hw1]; exact hp_alloc_new _ _
  have H1 := Lib.hid (T.half.old hb1)
  have hnew := T.half.new (.cells #[.int .i64 2, .int .i64 o.a, .int .i64 o.b, .slice o.ad o.l.length o.c] 42)
  rw [← hw1] at hnew
  have HX1 := Lib.hid hbx
  have HO1 := Lib.hid hnew
  have HW := Lib.hid hw1
  obtain ⟨x0, x1, x2, x3, xz⟩ := blk4 hbx
  clear hw1 hbx hnew hb1
  have HD := Lib.hid (rtku w1 _ _ _ _ _ o.a H1.out.ref H1.out.below.size hF.1)
  go_enter Try.func19, Try.ntmps19
  go_wp2_with fail
  rw [← HW.out]
  refine HD.out.mono ?_; rintro e w2 ⟨p, rfl, hbp, hqp, hn2, hb2, hm2⟩
  obtain ⟨h2, hu2, hx2⟩ := H1.out.refop hn2 hb2 hm2
  obtain ⟨hxe, hxo⟩ := hx2 _ xz HO1.out.1 HO1.out.2
  obtain ⟨w3, hw3⟩ : ∃ w3 : World, w3 = w2.alloc (.cells #[.int .i64 p.f, .int .i64 p.t, .slice p.a p.l.length p.c] 48) := ⟨_, rfl⟩
  have hb3 : Below w2.heap.size w2 w3 := by rw [hw3]; exact below_new1 _ _
  have H3 := Lib.hid (h2.old hb3)
  obtain ⟨y0, y1, y2, y3, yz⟩ := blk4 (hxe.trans HX1.out)
  have HW3 := Lib.hid hw3
  have HT := Lib.hid (dropm w3 _ _ _ _ _ o.a H3.out.net H3.out.below.size)
  clear hbp hqp hn2 hb2 hm2 h2 hu2 hx2 hxe hxo hb3 hw3 HD x0 x1 x2 x3
  simp only [Pkt.val]
  go_wp2_with fail
  rw [← HW3.out]
  refine HT.out.mono ?_; rintro e w4 ⟨rfl, hn4, hb4, hm4⟩
  obtain ⟨h4, _, _⟩ := H3.out.netop hn4 hb4 hm4
  have H4 := Lib.hid h4
  clear hn4 hb4 hm4 h4 HT
  go_wp2_with fail
  go_ret
  exact ⟨by first | rfl | simp, _, H4.out.two, hag, by omega⟩

theorem step3 (w wr : World) (bn br : Nat) (m : Int) (qs : List Q) (S Cs : Cuts) (o : OpV) (n : Nat) (T : Two w wr bn br m qs S Cs) (hF : Fit qs) (hag : Agree S Cs) (hcl : Cs.length ≤ n) (hn : n ≤ 3518437208884) (hk : o.kind = 3) :
    Calls Try.prog 19 #[.pointer (some ⟨bn, 0, none⟩), .pointer (some ⟨br, 0, none⟩), .agg #[.int .i64 o.kind, .int .i64 o.a, .int .i64 o.b, .slice o.ad o.l.length o.c]] wr fun e w' => e = .returned (.bool true) ∧ Went w w' bn br m (netr.step m ⟨qs, S⟩ o) (n + 1) := by
  rw [show netr.step m ⟨qs, S⟩ o = ⟨dblQ qs o.a, S⟩ by rw [netr.step, if_neg (by omega), if_neg (by omega), if_pos hk]]
  rw [hk]
  obtain ⟨w1, hw1⟩ : ∃ w1 : World, w1 = wr.alloc (.cells #[.int .i64 3, .int .i64 o.a, .int .i64 o.b, .slice o.ad o.l.length o.c] 42) := ⟨_, rfl⟩
  have hb1 : Below wr.heap.size wr w1 := by rw [hw1]; exact below_new1 _ _
  have hbx : w1.heap[wr.heap.size]? = some (.cells #[.int .i64 3, .int .i64 o.a, .int .i64 o.b, .slice o.ad o.l.length o.c] 42 (0, 0)) := by rw [hw1]; exact hp_alloc_new _ _
  have H1 := Lib.hid (T.half.old hb1)
  have hnew := T.half.new (.cells #[.int .i64 3, .int .i64 o.a, .int .i64 o.b, .slice o.ad o.l.length o.c] 42)
  rw [← hw1] at hnew
  have HX1 := Lib.hid hbx
  have HO1 := Lib.hid hnew
  have HW := Lib.hid hw1
  obtain ⟨x0, x1, x2, x3, xz⟩ := blk4 hbx
  clear hw1 hbx hnew hb1
  have hb1d : Below w1.heap.size w1 w1.drew := below_drewN (Below.refl _ w1) 1
  have H1d := Lib.hid (H1.out.old hb1d)
  have HO1d := Lib.hid (out_below H1.out hb1d HO1.out)
  have HX1d : Hid (w1.drew.heap[wr.heap.size]? = some (.cells #[.int .i64 3, .int .i64 o.a, .int .i64 o.b, .slice o.ad o.l.length o.c] 42 (0, 0))) := HX1.out
  have HD := Lib.hid (doublem w1.drew _ _ _ _ _ o.a H1d.out.net hF H1d.out.below.size)
  have HT := Lib.hid (fun (w2 : World) (h2 : Half w w2 bn br m (dblQ qs o.a) qs S Cs) => rdblu w2 _ _ _ _ _ o.a h2.ref h2.below.size)
  go_enter Try.func19, Try.ntmps19
  go_wp2_with fail
  rw [← HW.out]
  go_region_held3 (fun w' => w'.cell? ⟨wr.heap.size, 1, none⟩ = some (.int .i64 o.a)) (first | (exact x1) | (exact y1) | (exact z1)) (first | (go_at_call 16; refine HD.out.mono ?_; rintro e w2 ⟨rfl, hn2, hb2, hm2⟩; obtain ⟨h2, _, hx2⟩ := H1d.out.netop hn2 hb2 hm2; obtain ⟨hxe, hxo⟩ := hx2 wr.heap.size xz HO1d.out.1 HO1d.out.2; have HXE := Lib.hid (hxe.trans HX1d.out); obtain ⟨y0, y1, y2, y3, yz⟩ := blk4 HXE.out; have HXO := Lib.hid hxo; have H2 := Lib.hid h2; have HT2 := Lib.hid (HT.out w2 h2); clear hn2 hb2 hm2 hx2 hxe h2 hxo) | (go_at_call 32; refine HT2.out.mono ?_; rintro e w4 ⟨rfl, hn4, hb4, hm4⟩; obtain ⟨h4, _, hx4⟩ := H2.out.refop hn4 hb4 hm4; obtain ⟨hze, _⟩ := hx4 wr.heap.size yz HXO.out.1 HXO.out.2; obtain ⟨z0, z1, z2, z3, zz⟩ := blk4 (hze.trans HXE.out); have H4 := Lib.hid h4; clear hn4 hb4 hm4 h4 hx4 hze))
  go_wp2_with fail
  go_ret
  exact ⟨by first | rfl | simp, _, H4.out.two, hag, by omega⟩

theorem step4 (w wr : World) (bn br : Nat) (m : Int) (qs : List Q) (S Cs : Cuts) (o : OpV) (n : Nat) (T : Two w wr bn br m qs S Cs) (hF : Fit qs) (hag : Agree S Cs) (hcl : Cs.length ≤ n) (hn : n ≤ 3518437208884) (hk : o.kind = 4) :
    Calls Try.prog 19 #[.pointer (some ⟨bn, 0, none⟩), .pointer (some ⟨br, 0, none⟩), .agg #[.int .i64 o.kind, .int .i64 o.a, .int .i64 o.b, .slice o.ad o.l.length o.c]] wr fun e w' => e = .returned (.bool true) ∧ Went w w' bn br m (netr.step m ⟨qs, S⟩ o) (n + 1) := by
  rw [show netr.step m ⟨qs, S⟩ o = ⟨qs, cutS m S o.a o.b⟩ by rw [netr.step, if_neg (by omega), if_neg (by omega), if_neg (by omega), if_pos hk]]
  rw [hk]
  obtain ⟨w1, hw1⟩ : ∃ w1 : World, w1 = wr.alloc (.cells #[.int .i64 4, .int .i64 o.a, .int .i64 o.b, .slice o.ad o.l.length o.c] 42) := ⟨_, rfl⟩
  have hb1 : Below wr.heap.size wr w1 := by rw [hw1]; exact below_new1 _ _
  have hbx : w1.heap[wr.heap.size]? = some (.cells #[.int .i64 4, .int .i64 o.a, .int .i64 o.b, .slice o.ad o.l.length o.c] 42 (0, 0)) := by rw [hw1]; exact hp_alloc_new _ _
  have H1 := Lib.hid (T.half.old hb1)
  have hnew := T.half.new (.cells #[.int .i64 4, .int .i64 o.a, .int .i64 o.b, .slice o.ad o.l.length o.c] 42)
  rw [← hw1] at hnew
  have HX1 := Lib.hid hbx
  have HO1 := Lib.hid hnew
  have HW := Lib.hid hw1
  obtain ⟨x0, x1, x2, x3, xz⟩ := blk4 hbx
  clear hw1 hbx hnew hb1
  have hb1d : Below w1.heap.size w1 w1.drew := below_drewN (Below.refl _ w1) 1
  have H1d := Lib.hid (H1.out.old hb1d)
  have HO1d := Lib.hid (out_below H1.out hb1d HO1.out)
  have HX1d : Hid (w1.drew.heap[wr.heap.size]? = some (.cells #[.int .i64 4, .int .i64 o.a, .int .i64 o.b, .slice o.ad o.l.length o.c] 42 (0, 0))) := HX1.out
  have HD := Lib.hid (cutm w1.drew _ _ _ _ _ o.a o.b H1d.out.net H1d.out.below.size)
  have HT := Lib.hid (fun (w2 : World) (h2 : Half w w2 bn br m qs qs (cutS m S o.a o.b) Cs) => rcutu w2 _ _ _ _ _ o.a o.b h2.ref h2.below.size (by omega))
  go_enter Try.func19, Try.ntmps19
  go_wp2_with fail
  rw [← HW.out]
  go_region_held3 (fun w' => w'.cell? ⟨wr.heap.size, 1, none⟩ = some (.int .i64 o.a) ∧ w'.cell? ⟨wr.heap.size, 2, none⟩ = some (.int .i64 o.b)) (first | (exact ⟨x1, x2⟩) | (exact ⟨y1, y2⟩) | (exact ⟨z1, z2⟩)) (first | (go_at_call 15; refine HD.out.mono ?_; rintro e w2 ⟨rfl, hn2, hb2, hm2⟩; obtain ⟨h2, _, hx2⟩ := H1d.out.netop hn2 hb2 hm2; obtain ⟨hxe, hxo⟩ := hx2 wr.heap.size xz HO1d.out.1 HO1d.out.2; have HXE := Lib.hid (hxe.trans HX1d.out); obtain ⟨y0, y1, y2, y3, yz⟩ := blk4 HXE.out; have HXO := Lib.hid hxo; have H2 := Lib.hid h2; have HT2 := Lib.hid (HT.out w2 h2); clear hn2 hb2 hm2 hx2 hxe h2 hxo) | (go_at_call 33; refine HT2.out.mono ?_; rintro e w4 ⟨rfl, hn4, hb4, hm4⟩; obtain ⟨h4, _, hx4⟩ := H2.out.refop hn4 hb4 hm4; obtain ⟨hze, _⟩ := hx4 wr.heap.size yz HXO.out.1 HXO.out.2; obtain ⟨z0, z1, z2, z3, zz⟩ := blk4 (hze.trans HXE.out); have H4 := Lib.hid h4; clear hn4 hb4 hm4 h4 hx4 hze))
  go_wp2_with fail
  go_ret
  exact ⟨by first | rfl | simp, _, H4.out.two, agree_cutS hag m o.a o.b, by have := rcutS_len m Cs o.a o.b; omega⟩

theorem step5 (w wr : World) (bn br : Nat) (m : Int) (qs : List Q) (S Cs : Cuts) (o : OpV) (n : Nat) (T : Two w wr bn br m qs S Cs) (hF : Fit qs) (hag : Agree S Cs) (hcl : Cs.length ≤ n) (hn : n ≤ 3518437208884) (hk : o.kind = 5) :
    Calls Try.prog 19 #[.pointer (some ⟨bn, 0, none⟩), .pointer (some ⟨br, 0, none⟩), .agg #[.int .i64 o.kind, .int .i64 o.a, .int .i64 o.b, .slice o.ad o.l.length o.c]] wr fun e w' => e = .returned (.bool true) ∧ Went w w' bn br m (netr.step m ⟨qs, S⟩ o) (n + 1) := by
  rw [show netr.step m ⟨qs, S⟩ o = ⟨qs, []⟩ by rw [netr.step, if_neg (by omega), if_neg (by omega), if_neg (by omega), if_neg (by omega), if_pos hk]]
  rw [hk]
  obtain ⟨rs, hr, hrq⟩ := T.ref
  obtain ⟨g1, ⟨a, c, a2, c2, g2, g3, g4⟩, g6⟩ := hr
  obtain ⟨e0, e1, e2, k0, k1, k2, ez⟩ := blk3 g2
  have hne0 : br ≠ wr.heap.size := by omega
  obtain ⟨wS, hwS⟩ : ∃ wS : World, wS = wr.setCell ⟨br, 2, none⟩ (.slice none 0 0) := ⟨_, rfl⟩
  have hb2 : Below w.heap.size wr wS := by rw [hwS]; exact (Below.refl _ _).setCell (p := ⟨br, 2, none⟩) g1 _
  have hk2 : ∀ k, k ≠ br → wS.heap[k]? = wr.heap[k]? := fun k hn => by rw [hwS]; exact hp_set_ne hn
  have hbr2 : wS.heap[br]? = some (.cells #[.int .i64 m, .slice a rs.length c, .slice none 0 0] 51 (0, 0)) := by rw [hwS]; exact hp_set g2 2 _
  have hm2 : Moved wr wS br := by
    refine ⟨fun k hk' hn => hk2 k (fun e => hn (.inl e)), fun k hf => .inl ?_, hb2.size⟩
    rcases (foot_two hbr2 k).1 hf with h | h | h
    · exact .inl h
    · exact (foot_two g2 k).2 (.inr (.inl h))
    · simp at h
  have hn2 : RefIs wS w.heap.size br m qs [] := by
    refine ⟨rs, ⟨g1, ⟨a, c, none, 0, hbr2, own_kept g3 (fun g hg => hk2 g (own_ne g3 g2 (by decide) g hg)), World.ownsRow_nil _ _ _ _⟩, fun p hp => own_kept (g6 p hp) (fun g hg => hk2 g (own_ne (g6 p hp) g2 (by decide) g hg))⟩, hrq⟩
  obtain ⟨hS, _, _⟩ := T.half.refop hn2 hb2 hm2
  obtain ⟨w2, hw2⟩ : ∃ w2 : World, w2 = wS.alloc (.cells #[.int .i64 5, .int .i64 o.a, .int .i64 o.b, .slice o.ad o.l.length o.c] 42) := ⟨_, rfl⟩
  have h2 := hS.old (below_new1 wS (.cells #[.int .i64 5, .int .i64 o.a, .int .i64 o.b, .slice o.ad o.l.length o.c] 42))
  rw [← hw2] at h2
  have H2 := Lib.hid h2
  have HT := Lib.hid (healm w2 _ _ _ _ _ h2.net h2.below.size)
  have HW := Lib.hid hwS
  have HW2 := Lib.hid hw2
  clear g2 g3 g4 g6 hk2 hbr2 hm2 hn2 h2 hwS hw2 hrq hb2 hS
  go_enter Try.func19, Try.ntmps19
  go_wp2_with fail
  rw [← HW.out, ← HW2.out]
  refine HT.out.mono ?_; rintro e w4 ⟨rfl, hn4, hb4, hm4⟩
  obtain ⟨h4, _, _⟩ := H2.out.netop hn4 hb4 hm4
  have H4 := Lib.hid h4
  clear hn4 hb4 hm4 h4 HT
  go_wp2_with fail
  go_ret
  exact ⟨by first | rfl | simp, [], H4.out.two, agree_nil, by simp⟩
end Go.Proofs.Ytnnfagdhigodbaa.nety
