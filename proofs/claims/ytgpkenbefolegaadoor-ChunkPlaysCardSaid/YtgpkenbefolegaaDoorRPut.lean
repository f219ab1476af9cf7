/-
  The document's box: Put.
-/
import Derived.Test.YtgpkenbefolegaaDoorRBox
import Derived.Deep.CutBlock
namespace Go.Proofs.YtgpkenbefolegaaDoor.box
open Go.ChangeShapes Go.WideShapes Go.ChangeAt Go.RowKit
open Go.Maps
open Go.Proofs.YtgpkenbefolegaaDoor.kit Go.Proofs.YtgpkenbefolegaaDoor.mapkit Go.Proofs.YtgpkenbefolegaaDoor.byt Go.Proofs.YtgpkenbefolegaaDoor.sum Go.Proofs.YtgpkenbefolegaaDoor.cut
set_option linter.unusedVariables false
set_option linter.unusedSimpArgs false
set_option maxHeartbeats 4000000
set_option maxRecDepth 100000

def pq (p : PieceV) (a : Option Addr) (c : Nat) : PieceV := ⟨p.pos, p.tot, p.sum, a, c, p.data⟩

theorem rput_ok (p : PieceV) (w : World) (base br : Nat) (V : BoxV) (N : Nat → Prop) (h : RefOff w base br V N) (hbase : base ≤ w.heap.size) (hN : ∀ g, N g → g < w.heap.size) (hp : GoodP w p) (hdl : p.data.length ≤ 140737488355328) :
    Calls Tryd.prog 24 #[.pointer (some ⟨br, 0, none⟩), pval p] w fun e w' => e = .returned (.int .i64 (putV V p).2) ∧ RefOff w' base br (putV V p).1 N ∧ Keep (RS w base br N) w w' := by
  obtain ⟨j0, hj, hy0, hy1, hy2⟩ := info_parts infoPiece
  obtain ⟨i0, hi, hz0, hz1, hz2⟩ := info_parts infoByte
  have hbrz := h.lt
  obtain ⟨hlob, a, c, L, hblk, hrow, hdat, hrel, hrn⟩ := h
  have hL16 := hrel.le
  obtain ⟨w1, hw1⟩ : ∃ w1, w1 = w.alloc (.cells #[.int .i64 p.pos, .int .i64 p.tot, .int .u32 p.sum, .slice p.addr p.data.length p.cap] 33) := ⟨_, rfl⟩
  have hb1 : Below w.heap.size w w1 := by rw [hw1]; exact below_new1 _ _
  have hn1 : w1.heap[w.heap.size]? = some (.cells #[.int .i64 p.pos, .int .i64 p.tot, .int .u32 p.sum, .slice p.addr p.data.length p.cap] 33 (0, 0)) := by rw [hw1]; exact hp_alloc_new _ _
  have hsz1 : w1.heap.size = w.heap.size + 1 := by rw [hw1, size_new]
  obtain ⟨pb, hpb⟩ : ∃ pb, pb = w.heap.size := ⟨_, rfl⟩
  rw [← hpb] at hn1
  obtain ⟨q0, q1, q2, q3, -, qz⟩ := blk4 hn1
  have HMAY := Lib.hid (rmay_ok p w1 (by omega) hp.tot)
  have hpd : pval p = .agg #[.int .i64 p.pos, .int .i64 p.tot, .int .u32 p.sum, .slice p.addr p.data.length p.cap] := rfl
  rw [hpd] at HMAY ⊢
  have HB1 := Lib.hid hb1
  have HN1 := Lib.hid hn1
  have HW1 := Lib.hid hw1
  have HPB := Lib.hid hpb
  have HSZ1 := Lib.hid hsz1
  have HBLK := Lib.hid hblk
  have HROW := Lib.hid hrow
  have HDAT := Lib.hid hdat
  have HREL := Lib.hid hrel
  have HGP := Lib.hid hp
  have HNN := Lib.hid hN
  have HREF : Hid (RefOff w base br V N) := ⟨hlob, a, c, L, hblk, hrow, hdat, hrel, hrn⟩
  have HRN := Lib.hid hrn
  clear hrn hblk hrow hdat hrel hp hN hb1 hn1 hw1 hpb hpd hsz1
  by_cases hm : mayP p = true
  case neg =>
    have hm' : mayP p = false := by simpa using hm
    have HPV : Hid (putV V p = (V, 21)) := by simp [Hid, putV, hm']
    rw [hm'] at HMAY
    clear hm hm'
    go_enter Tryd.func24, Tryd.ntmps24
    go_wp2_with fail
    rw [← HW1.out]
    refine HMAY.out.mono ?_; rintro e w2 ⟨rfl, hb2⟩
    have HB2 := Lib.hid (below_step HB1.out hb2)
    clear hb2 HMAY
    go_wp2_with fail
    go_ret
    rw [HPV.out]
    exact ⟨rfl, HREF.out.below HB2.out, Keep.of_below HB2.out⟩
  rw [hm] at HMAY
  have HMP := Lib.hid hm
  clear hm
  have HFIN : Hid (∀ w', Below w.heap.size w w' → (∃ x ∈ L, conf x p) → (Ending.returned (.int .i64 120) = .returned (.int .i64 (putV V p).2) ∧ RefOff w' base br (putV V p).1 N ∧ Keep (RS w base br N) w w')) := by
    rintro w' hb ⟨x, hx, hc⟩
    rw [put_conf HREL.out HMP.out hx hc]
    exact ⟨rfl, HREF.out.below hb, Keep.of_below hb⟩
  go_enter Tryd.func24, Tryd.ntmps24
  go_wp2_with fail
  rw [← HW1.out]
  refine HMAY.out.mono ?_; rintro e w2 ⟨rfl, hb2⟩
  have HB2 := Lib.hid (below_step HB1.out hb2)
  have HN2 := Lib.hid (hp_step HN1.out hb2)
  have HS2 : Hid (w.heap.size + 1 ≤ w2.heap.size) := by have := hb2.size; have := HSZ1.out; simp only [Hid]; omega
  clear hb2 HMAY q0 q1 q2 q3 qz HW1 HN1
  rw [← HPB.out]
  go_wp2_with fail
  go_loopw [5] (fun v wr => ∃ k : Nat, k ≤ L.length ∧ v = .int .i64 k ∧ Hid (Below w2.heap.size w2 wr) ∧ Hid (∀ j (hj : j < L.length), j < k → ¬ conf L[j] p)) (fun v _ => L.length - (intOf v).toNat)
  case atStart => exact ⟨0, Nat.zero_le _, rfl, (Below.refl _ _ : Below w2.heap.size w2 w2), fun j _ h => by omega⟩
  case round =>
    obtain ⟨k, hk, rfl, HB, HC⟩ := hrel
    have hnr := hp_step HN2.out HB.out
    obtain ⟨q0, q1, q2, q3, qf, qz⟩ := blk4 hnr
    obtain ⟨b0, bf, bz⟩ := blk1 (hp_step HBLK.out (below_step HB2.out HB.out))
    by_cases hlt : k < L.length
    · have hrw := own_below HROW.out (below_step HB2.out HB.out)
      obtain ⟨g, rfl⟩ := own.own_ptr hrw (by omega)
      obtain ⟨x0, x1, x2, x3⟩ := pc_cells hrw hlt
      have hgz := (own_lt hrw).2
      have hmem : L[k] ∈ L := List.getElem_mem hlt
      have hxd := (HDAT.out _ hmem).1
      have HCS := Lib.hid (fun (hn : ¬ conf L[k] p) j (hj : j < L.length) (hjk : j < k + 1) => (by
        by_cases e : j = k
        · subst e; exact hn
        · exact HC.out j hj (by omega) : ¬ conf L[j] p))
      have HCY := Lib.hid (fun (hc : conf L[k] p) => (⟨L[k], hmem, hc⟩ : ∃ x ∈ L, conf x p))
      obtain ⟨x, hx⟩ : ∃ x, x = L[k] := ⟨_, rfl⟩
      rw [← hx] at x0 x1 x2 x3 hxd HCS HCY
      have HBW := Lib.hid (below_step HB2.out HB.out)
      obtain ⟨hxl, hxlie⟩ := data_lie hxd
      have hbd : Below wr.heap.size wr wr.drew := below_drewN (Below.refl _ wr) 1
      have HBY := Lib.hid (bytes_any x.data p.data x.addr p.addr x.cap p.cap wr.drew hxl ((hxlie.below HBW.out).below hbd) ((HGP.out.lie.below HBW.out).below hbd))
      have HBD := Lib.hid hbd
      clear hx hmem hxd hrw hxlie hbd hnr
      by_cases e1 : x.tot = p.tot
      case neg =>
        have t1 : (x.tot != p.tot) = true := by simpa using e1
        have HY := Lib.hid (HCY.out (.inl e1))
        clear e1
        go_wp2_with fail
        go_quiet (fail)
        go_wp2_with fail
        go_ret
        exact HFIN.out _ (below_drewN HBW.out _) HY.out
      have t1 : (x.tot != p.tot) = false := by simp [e1]
      by_cases e2 : x.sum = p.sum
      case neg =>
        have t2 : ((x.sum : Int) != (p.sum : Int)) = true := by simp; omega
        have HY := Lib.hid (HCY.out (.inr (.inl e2)))
        clear e1 e2
        go_wp2_with fail
        go_quiet (fail)
        go_wp2_with fail
        go_ret
        exact HFIN.out _ (below_drewN HBW.out _) HY.out
      have t2 : ((x.sum : Int) != (p.sum : Int)) = false := by simp [e2]
      by_cases e3 : x.pos = p.pos
      case neg =>
        have t3 : (x.pos == p.pos) = false := by simpa using e3
        have HNX := Lib.hid (HCS.out (fun h => h.elim (fun h => h e1) (fun h => h.elim (fun h => h e2) (fun h => e3 h.1))))
        clear e1 e2 e3
        go_wp2_with fail
        go_quiet (fail)
        go_wp2_with fail
        go_roundw
        case rel => exact ⟨k + 1, by omega, by go_num, below_drewN HB.out _, HNX⟩
        case measure => simp [intOf]; omega
      have t3 : (x.pos == p.pos) = true := by simpa using e3
      have HST : Hid (∀ Wx Wy : World, Below Wx.heap.size Wx Wy → (Wx.cell? ⟨br, 0, none⟩ = some (.slice (some ⟨g, 0, none⟩) L.length c) ∧ Wx.cell? ⟨g, k * 4, none⟩ = some (.int .i64 x.pos) ∧ Wx.cell? ⟨g, k * 4 + 1, none⟩ = some (.int .i64 x.tot) ∧ Wx.cell? ⟨g, k * 4 + 2, none⟩ = some (.int .u32 x.sum) ∧ Wx.cell? ⟨g, k * 4 + 3, none⟩ = some (.slice x.addr x.data.length x.cap) ∧ Wx.cell? ⟨pb, 0, none⟩ = some (.int .i64 p.pos) ∧ Wx.cell? ⟨pb, 1, none⟩ = some (.int .i64 p.tot) ∧ Wx.cell? ⟨pb, 2, none⟩ = some (.int .u32 p.sum) ∧ Wx.cell? ⟨pb, 3, none⟩ = some (.slice p.addr p.data.length p.cap)) → (Wy.cell? ⟨br, 0, none⟩ = some (.slice (some ⟨g, 0, none⟩) L.length c) ∧ Wy.cell? ⟨g, k * 4, none⟩ = some (.int .i64 x.pos) ∧ Wy.cell? ⟨g, k * 4 + 1, none⟩ = some (.int .i64 x.tot) ∧ Wy.cell? ⟨g, k * 4 + 2, none⟩ = some (.int .u32 x.sum) ∧ Wy.cell? ⟨g, k * 4 + 3, none⟩ = some (.slice x.addr x.data.length x.cap) ∧ Wy.cell? ⟨pb, 0, none⟩ = some (.int .i64 p.pos) ∧ Wy.cell? ⟨pb, 1, none⟩ = some (.int .i64 p.tot) ∧ Wy.cell? ⟨pb, 2, none⟩ = some (.int .u32 p.sum) ∧ Wy.cell? ⟨pb, 3, none⟩ = some (.slice p.addr p.data.length p.cap))) := by
        intro Wx Wy kk hs
        obtain ⟨s0, s1, s2, s3, s4, s5, s6, s7, s8⟩ := hs
        exact ⟨cell_step s0 kk, cell_step s1 kk, cell_step s2 kk, cell_step s3 kk, cell_step s4 kk, cell_step s5 kk, cell_step s6 kk, cell_step s7 kk, cell_step s8 kk⟩
      by_cases e4 : x.data = p.data
      case neg =>
        have hsb : sameB x.data p.data = false := by simpa [sameB] using e4
        rw [hsb] at HBY
        have HY := Lib.hid (HCY.out (.inr (.inr ⟨e3, e4⟩)))
        clear e1 e2 e3 e4 hsb
        go_wp2_with fail
        go_region_held3 (fun w' => w'.cell? ⟨br, 0, none⟩ = some (.slice (some ⟨g, 0, none⟩) L.length c) ∧ w'.cell? ⟨g, k * 4, none⟩ = some (.int .i64 x.pos) ∧ w'.cell? ⟨g, k * 4 + 1, none⟩ = some (.int .i64 x.tot) ∧ w'.cell? ⟨g, k * 4 + 2, none⟩ = some (.int .u32 x.sum) ∧ w'.cell? ⟨g, k * 4 + 3, none⟩ = some (.slice x.addr x.data.length x.cap) ∧ w'.cell? ⟨pb, 0, none⟩ = some (.int .i64 p.pos) ∧ w'.cell? ⟨pb, 1, none⟩ = some (.int .i64 p.tot) ∧ w'.cell? ⟨pb, 2, none⟩ = some (.int .u32 p.sum) ∧ w'.cell? ⟨pb, 3, none⟩ = some (.slice p.addr p.data.length p.cap)) (first | (exact ⟨b0, x0, x1, x2, x3, q0, q1, q2, q3⟩) | (refine HST.out _ _ hbn ?_; assumption)) (first | (go_at_call 21; refine HBY.out.mono ?_; rintro e wn ⟨rfl, hbn⟩; have HBN := Lib.hid (below_step HBD.out hbn)))
        go_wp2_with fail
        go_ret
        exact HFIN.out _ (below_step HBW.out HBN.out) HY.out
      have hsb : sameB x.data p.data = true := by simpa [sameB] using e4
      rw [hsb] at HBY
      have HNX := Lib.hid (HCS.out (fun h => h.elim (fun h => h e1) (fun h => h.elim (fun h => h e2) (fun h => h.2 e4))))
      clear e1 e2 e3 e4 hsb
      go_wp2_with fail
      go_region_held3 (fun w' => w'.cell? ⟨br, 0, none⟩ = some (.slice (some ⟨g, 0, none⟩) L.length c) ∧ w'.cell? ⟨g, k * 4, none⟩ = some (.int .i64 x.pos) ∧ w'.cell? ⟨g, k * 4 + 1, none⟩ = some (.int .i64 x.tot) ∧ w'.cell? ⟨g, k * 4 + 2, none⟩ = some (.int .u32 x.sum) ∧ w'.cell? ⟨g, k * 4 + 3, none⟩ = some (.slice x.addr x.data.length x.cap) ∧ w'.cell? ⟨pb, 0, none⟩ = some (.int .i64 p.pos) ∧ w'.cell? ⟨pb, 1, none⟩ = some (.int .i64 p.tot) ∧ w'.cell? ⟨pb, 2, none⟩ = some (.int .u32 p.sum) ∧ w'.cell? ⟨pb, 3, none⟩ = some (.slice p.addr p.data.length p.cap)) (first | (exact ⟨b0, x0, x1, x2, x3, q0, q1, q2, q3⟩) | (refine HST.out _ _ hbn ?_; assumption)) (first | (go_at_call 21; refine HBY.out.mono ?_; rintro e wn ⟨rfl, hbn⟩; have HBN := Lib.hid (below_step HBD.out hbn)))
      go_wp2_with fail
      go_roundw
      case rel => exact ⟨k + 1, by omega, by go_num, below_step HB.out HBN.out, HNX⟩
      case measure => simp [intOf]; omega
    · obtain rfl : k = L.length := by omega
      have hfree : ∀ x ∈ L, ¬ conf x p := by
        intro x hx
        obtain ⟨j, hj, rfl⟩ := List.getElem_of_mem hx
        exact HC.out j hj hj
      have hbw := below_step HB2.out HB.out
      have HHAS := Lib.hid (has_ok wr base br c a L p.pos (hp_step HBLK.out hbw) (own_below HROW.out hbw) (by omega))
      have HBW := Lib.hid hbw
      have HFREE := Lib.hid hfree
      have HNR := Lib.hid hnr
      clear hbw hfree hnr HC
      by_cases hx : ∃ x ∈ L, x.pos = p.pos
      · obtain ⟨x, hxm, hxp⟩ := hx
        obtain ⟨kk, hkk⟩ := hasI_pos hxm
        rw [hxp] at hkk
        rw [hkk] at HHAS
        have HR2 : Hid (RefOff wr base br (putV V p).1 N) := ⟨hlob, a, c, L, hp_step HBLK.out HBW.out, own_below HROW.out HBW.out, fun y hy => ⟨own_below (HDAT.out y hy).1 HBW.out, (HDAT.out y hy).2⟩, rel_same HREL.out HMP.out HFREE.out hxm hxp, HRN.out⟩
        have HPV : Hid ((putV V p).2 = 0) := by simp only [Hid]; rw [put_free HREL.out HMP.out HFREE.out]
        have tk : decide ((kk : Int) < 0) = false := decide_eq_false (by omega)
        clear hxm hxp hkk
        go_wp2_with fail
        refine HHAS.out.mono ?_; rintro e w3 ⟨rfl, rfl⟩
        go_wp2_with fail
        go_ret
        exact ⟨by rw [HPV.out]; rfl, HR2.out, Keep.of_below HBW.out⟩
      · have hnone : ∀ x ∈ L, x.pos ≠ p.pos := fun x hxm he => hx ⟨x, hxm, he⟩
        have hkk := hasI_none hnone
        rw [hkk] at HHAS
        have HPV : Hid ((putV V p).2 = 0) := by simp only [Hid]; rw [put_free HREL.out HMP.out HFREE.out]
        have HRL : Hid (∀ a6 c6, Rel (L ++ [pq p a6 c6]) (putV V p).1) := fun a6 c6 => rel_new HREL.out HMP.out HFREE.out hnone ⟨rfl, rfl, rfl, rfl⟩
        have HNIL := Lib.hid HGP.out.nil
        have HLIE := Lib.hid (HGP.out.lie.below HBW.out)
        clear hx hnone hkk HREL HFREE HFIN HREF
        go_wp2_with fail
        refine HHAS.out.mono ?_; rintro e w3 ⟨rfl, rfl⟩
        go_wp2_with (at_builtin; refine wpl_append rfl _ _ 22 rfl wr.heap.size 5 i0 (.int .u8 0) 1 1 Tryd.underlying22 hi hz0 hz1 hz2 rfl (by decide) _ 0 [] rfl (World.ownsRow_nil _ _ _ _) p.addr p.data.length p.cap (bcells p.data) rfl HNIL.out (by rw [bcells_len]; simp) HLIE.out (bcells_one _) (by unfold maxLen; omega) (by omega) (Nat.le_refl _) ?_)
        intro v6 w6 hown6 hgr6
        try simp only [Nat.zero_add, List.nil_append] at hown6
        obtain ⟨a6, c6, rfl, -⟩ := own_shape hown6
        have hb6 : Below wr.heap.size wr w6 := ⟨hgr6.os, hgr6.tape, hgr6.output, hgr6.size, fun j hj => hgr6.block j hj (by simp [Value.ownBlock])⟩
        have hn6 := hp_step HNR.out hb6
        have hbl6 := hp_step HBLK.out (below_step HBW.out hb6)
        have hne : br ≠ pb := by rw [HPB.out]; omega
        have hpbz : pb < wr.heap.size := qz
        obtain ⟨w7, hw7⟩ : ∃ w7, w7 = w6.setCell ⟨pb, 3, none⟩ (.slice a6 p.data.length c6) := ⟨_, rfl⟩
        have hn7 : w7.heap[pb]? = some (.cells #[.int .i64 p.pos, .int .i64 p.tot, .int .u32 p.sum, .slice a6 p.data.length c6] 33 (0, 0)) := by rw [hw7]; exact hp_set hn6 3 _
        have hbl7 : w7.heap[br]? = some (.cells #[.slice a L.length c] 51 (0, 0)) := by rw [hw7]; exact (hp_set_ne hne).trans hbl6
        have hb7 : Below w.heap.size w w7 := by rw [hw7]; exact (below_step HBW.out hb6).setCell (p := ⟨pb, 3, none⟩) (by rw [← HPB.out]; exact Nat.le_refl _) _
        have hown7 : w7.ownsRow wr.heap.size 5 1 (.slice a6 p.data.length c6) p.data.length (bcells p.data) := by
          rw [hw7]
          exact own.own_kept hown6 (fun g hg => hp_set_ne (by have := (own.own_from hown6 g hg).1; show g ≠ pb; omega))
        obtain ⟨q0', q1', q2', q3', qf', qz'⟩ := blk4 hn6
        clear q0 q1 q2 q3 qf qz b0 bf bz
        obtain ⟨q0, q1, q2, q3, qf, qz⟩ := blk4 (show w7.drew.heap[pb]? = _ from hn7)
        obtain ⟨b0, bf, bz⟩ := blk1 (show w7.drew.heap[br]? = _ from hbl7)
        have hfin : ∀ (w9 : World) (v9 : Value), w9.ownsRow base 33 4 v9 (L.length + 1) (pcellsL L ++ [.int .i64 p.pos, .int .i64 p.tot, .int .u32 p.sum, .slice a6 p.data.length c6]) → (w7.drew.alloc (.cells #[.int .i64 p.pos, .int .i64 p.tot, .int .u32 p.sum, .slice a6 p.data.length c6] 33)).grownBy w9 (Value.slice a L.length c).ownBlock → (∀ k, v9.ownBlock = some k → (Value.slice a L.length c).ownBlock = some k ∨ (w7.drew.alloc (.cells #[.int .i64 p.pos, .int .i64 p.tot, .int .u32 p.sum, .slice a6 p.data.length c6] 33)).heap.size ≤ k) →
            RefOff (w9.setCell ⟨br, 0, none⟩ v9) base br (putV V p).1 N ∧ Keep (RS w base br N) w (w9.setCell ⟨br, 0, none⟩ v9) ∧ ∃ v, w9.cell? ⟨br, 0, none⟩ = some v ∧ w9.frozen? ⟨br, 0, none⟩ = false := by
          intro w9 v9 ho hg hat
          obtain ⟨a9, c9, rfl, -⟩ := own_shape ho
          have hbn : Below w7.heap.size w7 (w7.drew.alloc (.cells #[.int .i64 p.pos, .int .i64 p.tot, .int .u32 p.sum, .slice a6 p.data.length c6] 33)) := (below_drewN (Below.refl _ w7) 1).alloc (Nat.le_refl _) _
          have hrow7 := own_below HROW.out hb7
          have hblkN := hp_step hbl7 hbn
          have hother : ∀ (g : Nat) (T : TypeId) (cs : Array Value), w7.heap[g]? = some (.cells cs T (0, 0)) → T ≠ 33 → w9.heap[g]? = some (.cells cs T (0, 0)) := by
            intro g T cs hh hT
            have h1 := hp_step hh hbn
            refine (hg.block g (kit.blk h1).2.2 (fun e => ?_)).trans h1
            obtain ⟨cur, hcur⟩ := own.own_heap hrow7 g (own.own_block hrow7 g e.symm)
            rw [hcur] at hh
            simp only [Option.some.injEq, Obj.cells.injEq] at hh
            exact hT hh.2.1.symm
          have hbl9 := hother br _ _ hbl7 (by decide)
          have hkeep : ∀ {x : PieceV} {bs : Nat}, w7.ownsRow bs 5 1 (.slice x.addr x.data.length x.cap) x.data.length (bcells x.data) → (w9.setCell ⟨br, 0, none⟩ (.slice a9 (L.length + 1) c9)).ownsRow bs 5 1 (.slice x.addr x.data.length x.cap) x.data.length (bcells x.data) := by
            intro x bs hx
            refine own.own_kept hx (fun g hg2 => ?_)
            obtain ⟨cur, hcur⟩ := own.own_heap hx g hg2
            have h9 := hother g _ _ hcur (by decide)
            have hgb : g ≠ br := by
              intro e
              rw [e, hbl7] at hcur
              simp at hcur
            exact (hp_set_ne hgb).trans (h9.trans hcur.symm)
          have hwz : w.heap.size ≤ wr.heap.size := HBW.out.size
          refine ⟨⟨hlob, a9, c9, L ++ [pq p a6 c6], ?_, ?_, fun x hx => ?_, HRL.out a6 c6, fun g hg2 hn => ?_⟩, ?_, _, (kit.blk hbl9).1 0, (kit.blk hbl9).2.1 0⟩
          · rw [List.length_append, List.length_singleton]
            exact hp_set hbl9 0 _
          · rw [List.length_append, List.length_singleton, ← pcellsL_append]
            exact own.own_kept ho (fun g hg2 => hp_set_ne (own.own_ne ho hbl9 (by decide) g hg2))
          · rcases List.mem_append.1 hx with hx | hx
            · exact ⟨hkeep (own_below (HDAT.out x hx).1 hb7), (HDAT.out x hx).2⟩
            · rw [List.mem_singleton.1 hx]
              refine ⟨hkeep (x := pq p a6 c6) (own_mono hown7 (by omega)), fun g hg2 hn => ?_⟩
              have h1 := (own.own_from hown7 g hg2).1
              have h2 := HNN.out g hn
              omega
          · rcases hat g (by rw [hg2]; rfl) with h1 | h1
            · exact HRN.out g (own.own_block hrow7 g h1) hn
            · have h2 := HNN.out g hn
              have h3 := hbn.size
              have h4 := hb7.size
              omega
          · have hk7 : Keep (RS w base br N) w w9 := by
              refine ⟨hg.os.trans (hbn.os.trans hb7.os), hg.tape.trans (hbn.tape.trans hb7.tape), hg.output.trans (hbn.output.trans hb7.output), Nat.le_trans hb7.size (Nat.le_trans hbn.size hg.size), fun k hk2 hne2 => ?_⟩
              have h1 : k < w7.heap.size := Nat.lt_of_lt_of_le hk2 hb7.size
              have h2 : k < (w7.drew.alloc (.cells #[.int .i64 p.pos, .int .i64 p.tot, .int .u32 p.sum, .slice a6 p.data.length c6] 33)).heap.size := Nat.lt_of_lt_of_le h1 hbn.size
              refine (hg.block k h2 (fun e => ?_)).trans ((hbn.block k h1).trans (hb7.block k hk2))
              have h3 := own.own_block hrow7 k e.symm
              have h4 := own.own_from HROW.out k h3
              obtain ⟨cur, hcur⟩ := own.own_heap HROW.out k h3
              exact hne2 (.inr ⟨h4.1, HRN.out k h3, cur, hcur⟩)
            exact hk7.setCell (p := ⟨br, 0, none⟩) (.inr (.inl rfl)) _
        have HF := Lib.hid hfin
        have HO7 := Lib.hid (own_below HROW.out (hb7.trans (below_drewN (Below.refl _ w7) 1)))
        have HW7 := Lib.hid hw7
        have HS7 : Hid (base ≤ w7.drew.heap.size) := by have := hb7.size; show base ≤ w7.heap.size; omega
        have e3 : ∀ o : Obj, (w7.alloc o).cell? ⟨br, 0, none⟩ = some (.slice a L.length c) := fun o => cell_step (show w7.cell? ⟨br, 0, none⟩ = _ from b0) (below_new1 _ o)
        have e2 : ∀ o : Obj, (w7.drew.alloc o).cell? ⟨br, 0, none⟩ = some (.slice a L.length c) := fun o => cell_step b0 (below_new1 _ o)
        clear hfin hown6 hgr6 hb6 hn6 hbl6 hn7 hbl7 hb7 hown7 hw7
        go_upto_region 10 with fail
        rw [← HW7.out]
        clear q0' q1' q2' q3' qf' qz' HW7
        go_region_law (refine step_append_at rfl (.tmp 82) (.tmp 84) 24 rfl base 33 j0 _ 4 48 Tryd.underlying24 hj hy0 hy1 hy2 rfl (by decide) (.slice a L.length c) L.length (pcellsL L) rfl (HO7.out.alloc _) ⟨w7.heap.size, 0, none⟩ 1 1 [.int .i64 p.pos, .int .i64 p.tot, .int .u32 p.sum, .slice a6 p.data.length c6] rfl rfl (lie_new4 w7.drew _ _ _ _ _) (by simp [Value.oneCell']) (by unfold maxLen; omega) (by omega) (by show base ≤ (w7.alloc _).heap.size; rw [size_new]; have h9 : base ≤ w7.heap.size := HS7.out; omega) ?_; intro v9 w9 hown hgr hat9; obtain ⟨a9, c9, rfl, -⟩ := own_shape hown; obtain ⟨hF1, hF2, vo, hF3, hF4⟩ := HF.out w9 _ hown hgr hat9; have HFF := Lib.hid (And.intro hF1 hF2); clear hF1 hF2 hown hgr hat9)
        all_goals
          go_wp2_with fail
          go_ret
          exact ⟨by rw [HPV.out]; rfl, HFF.out.1, HFF.out.2⟩
end Go.Proofs.YtgpkenbefolegaaDoor.box
