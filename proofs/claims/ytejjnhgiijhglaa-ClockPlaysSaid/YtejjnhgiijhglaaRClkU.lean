/-
  The document's clock (purseref07) in memory: Tick.
-/
import Derived.Test.YtejjnhgiijhglaaRClkT
import Derived.StillTailTactics
namespace Go.Proofs.Ytejjnhgiijhglaa.rclku
open Go.ChangeShapes Go.WideShapes Go.ChangeAt Go.RowKit
open Go.Proofs.Ytejjnhgiijhglaa.kit Go.Proofs.Ytejjnhgiijhglaa.own Go.Proofs.Ytejjnhgiijhglaa.clkp Go.Proofs.Ytejjnhgiijhglaa.clks Go.Proofs.Ytejjnhgiijhglaa.clkt Go.Proofs.Ytejjnhgiijhglaa.clkr Go.Proofs.Ytejjnhgiijhglaa.rclkp Go.Proofs.Ytejjnhgiijhglaa.rclk Go.Proofs.Ytejjnhgiijhglaa.rclks Go.Proofs.Ytejjnhgiijhglaa.rclkt
set_option linter.unusedVariables false
set_option linter.unusedSimpArgs false
set_option maxHeartbeats 1000000
set_option maxRecDepth 100000

theorem own_other {w w5 : World} {N1 N2 s1 s2 n1 n2 c1 c2 : Nat} {e1 e2 : TypeId} {a1 a2 : Option Addr} {xs ys : List Value} {o : Obj} (hL : w.ownsRow N1 e1 s1 (.slice a1 n1 c1) n1 xs) (hD : w.ownsRow N2 e2 s2 (.slice a2 n2 c2) n2 ys) (hne : e1 ≠ e2)
    (hg : (w.alloc o).grownBy w5 (Value.slice a2 n2 c2).ownBlock) : w5.ownsRow N1 e1 s1 (.slice a1 n1 c1) n1 xs := by
  refine own_kept hL (fun g hg' => ?_)
  obtain ⟨cur, hcur⟩ := own_heap hL g hg'
  have hz := (kit.blk hcur).2.2
  refine (hg.block g (by rw [size_new]; omega) (fun e => ?_)).trans (hp_alloc_old hz)
  exact own_ne hD hcur hne g (own_block hD g e.symm) rfl

def dueL (P : List T3) (d : Int) : List ByteArray := (P.filter (fun t => decide (t.due = d))).map T3.nm
def offL (P : List T3) (d : Int) : List T3 := P.filter (fun t => decide (t.due ≠ d))
theorem dueL_yes {P : List T3} {d : Int} {k : Nat} (hk : k < P.length) (h : P[k].due = d) : dueL (P.take (k + 1)) d = dueL (P.take k) d ++ [P[k].nm] ∧ offL (P.take (k + 1)) d = offL (P.take k) d := by
  unfold dueL offL
  rw [List.take_succ_eq_append_getElem hk, List.filter_append, List.filter_append]
  simp [h]
theorem dueL_no {P : List T3} {d : Int} {k : Nat} (hk : k < P.length) (h : P[k].due ≠ d) : dueL (P.take (k + 1)) d = dueL (P.take k) d ∧ offL (P.take (k + 1)) d = offL (P.take k) d ++ [P[k]] := by
  unfold dueL offL
  rw [List.take_succ_eq_append_getElem hk, List.filter_append, List.filter_append]
  simp [h]
theorem dueL_len (P : List T3) (d : Int) : (dueL P d).length ≤ P.length := by unfold dueL; rw [List.length_map]; exact List.length_filter_le _ _
theorem offL_len (P : List T3) (d : Int) : (offL P d).length ≤ P.length := List.length_filter_le _ _

theorem rtick_ok (w : World) (base b : Nat) (A : CkS) (P : List T3) (h : RefAt w base b A.now P) (hbw : base ≤ w.heap.size) (hR : Rel A P) (ho : Ok A) (hf : Fut A) (hnow : A.now + 1 ≤ 1125899906842624) :
    Calls Try.prog 24 #[.pointer (some ⟨b, 0, none⟩)] w fun e w' => ∃ (a : Option Addr) (c : Nat), e = .returned (.slice a (told A).length c) ∧ w'.ownsRow w.heap.size 9 1 (.slice a (told A).length c) (told A).length ((told A).map Value.string) ∧
      (∃ P', RefAt w' base b (tickS A).now P' ∧ Rel (tickS A) P') ∧ Keep (CR w base) w w' := by
  obtain ⟨j0, hj, hy0, hy1, hy2⟩ := info_parts infoTmr
  obtain ⟨i0, hi, hw0, hw1, hw2⟩ := info_parts infoStr
  have hl : P.length ≤ 64 := by rw [rel_len hR]; exact ho.len
  have HT : Hid (dueL P (A.now + 1) = told A) := rel_told hR ho hf
  have HRT : Hid (Rel (tickS A) (offL P (A.now + 1))) := rel_tick hR hf
  have hn0 := ho.num.1.1
  obtain ⟨h1, a, c, h2, h3⟩ := h
  obtain ⟨q1, q2, hz⟩ := kit.blk h2
  have x0 : w.cell? ⟨b, 0, none⟩ = some (.int .i64 A.now) := q1 0
  have f0 := q2 0
  have hwr : IntKind.i64.wrap (A.now + 1) = A.now + 1 := IntWalk.i64_in _ (by omega)
  obtain ⟨w1, hw1'⟩ : ∃ w1, w1 = w.setCell ⟨b, 0, none⟩ (.int .i64 (A.now + 1)) := ⟨_, rfl⟩
  have hblk1 : w1.heap[b]? = some (.cells #[.int .i64 (A.now + 1), .slice a P.length c] 38 (0, 0)) := by rw [hw1']; exact hp_set h2 0 _
  have hrow1 : w1.ownsRow base 64 2 (.slice a P.length c) P.length (rcells P) := by rw [hw1']; exact own_kept h3 (fun g hg => hp_set_ne (own_ne h3 h2 (by decide) g hg))
  have hz1 : w1.heap.size = w.heap.size := by rw [hw1']; exact size_set _ _ _
  have hk1 : Keep (CR w base) w w1 := by rw [hw1']; exact (Keep.refl (CR w base) w).setCell (p := ⟨b, 0, none⟩) (.inr ⟨h1, _, _, _, h2, .inl rfl⟩) _
  have HBK := Lib.hid hblk1
  have HRW := Lib.hid hrow1
  have HZ1 := Lib.hid hz1
  have HK1 := Lib.hid hk1
  have HW1 := Lib.hid hw1'
  clear q1 q2 h2 h3 hw1' hblk1 hrow1 hz1 hk1 hR ho hf hnow hn0
  go_enter Try.func24, Try.ntmps24
  go_upto_region 2 with fail
  rw [← HW1.out]
  obtain ⟨nx, hnx⟩ : ∃ x, x = A.now + 1 := ⟨_, rfl⟩
  have HNX : Hid ((tickS A).now = nx) := by rw [Hid, hnx]; rfl
  rw [← hnx] at HBK HT HRT ⊢
  clear hnx HW1
  clear x0 f0 hwr
  have hz1 : b < w1.heap.size := by have := HZ1.out; omega
  go_wp2_with fail
  go_loopw [3, 4, 5] (fun dv lv iv wr => ∃ (k : Nat) (ad al : Option Addr) (cd cl : Nat), k ≤ P.length ∧ iv = .int .i64 k ∧ dv = .slice ad (dueL (P.take k) nx).length cd ∧ lv = .slice al (offL (P.take k) nx).length cl ∧
    Hid (wr.ownsRow w.heap.size 9 1 (.slice ad (dueL (P.take k) nx).length cd) (dueL (P.take k) nx).length ((dueL (P.take k) nx).map Value.string)) ∧ Hid (wr.ownsRow w.heap.size 64 2 (.slice al (offL (P.take k) nx).length cl) (offL (P.take k) nx).length (rcells (offL (P.take k) nx))) ∧ Hid (Below w.heap.size w1 wr)) (fun _ _ iv _ => P.length - (intOf iv).toNat)
  case atStart => exact ⟨0, none, none, 0, 0, Nat.zero_le _, rfl, rfl, rfl, World.ownsRow_nil _ _ _ _, World.ownsRow_nil _ _ _ _, Below.refl _ _⟩
  case round =>
    obtain ⟨k, ad, al, cd, cl, hk, rfl, rfl, rfl, HD, HL, HB⟩ := hrel
    have hB1 : Below w1.heap.size w1 wr := by rw [HZ1.out]; exact HB.out
    have hbr := hp_step HBK.out hB1
    obtain ⟨q1, q2, hzr⟩ := kit.blk hbr
    have y0 : wr.cell? ⟨b, 0, none⟩ = some (.int .i64 nx) := q1 0
    have y1 : wr.cell? ⟨b, 1, none⟩ = some (.slice a P.length c) := q1 1
    have hwz : w.heap.size ≤ wr.heap.size := by have := HB.out.size; have := HZ1.out; omega
    by_cases hkl : k < P.length
    · obtain ⟨g, rfl⟩ := own_ptr HRW.out (by omega)
      obtain ⟨m0, m1⟩ := rc_cell HRW.out hkl
      have z0 := cell_step m0 hB1
      have z1 := cell_step m1 hB1
      have hgz : g < wr.heap.size := Nat.lt_of_lt_of_le (own_from HRW.out g rfl).2 hB1.size
      have hDl : (dueL (P.take k) nx).length ≤ 64 := by have := dueL_len (P.take k) nx; rw [List.length_take] at this; omega
      have hLl : (offL (P.take k) nx).length ≤ 64 := by have := offL_len (P.take k) nx; rw [List.length_take] at this; omega
      have HYES : Hid (P[k].due = nx → dueL (P.take (k + 1)) nx = dueL (P.take k) nx ++ [P[k].nm] ∧ offL (P.take (k + 1)) nx = offL (P.take k) nx) := dueL_yes hkl
      have HNO : Hid (P[k].due ≠ nx → dueL (P.take (k + 1)) nx = dueL (P.take k) nx ∧ offL (P.take (k + 1)) nx = offL (P.take k) nx ++ [P[k]]) := dueL_no hkl
      obtain ⟨t, ht⟩ : ∃ t, t = P[k] := ⟨_, rfl⟩
      rw [← ht] at z0 z1 HYES HNO
      have Z0 := Lib.hid z0
      have Z1 := Lib.hid z1
      have Y1 := Lib.hid y1
      clear ht m0 m1 q1 q2 hbr hB1
      obtain ⟨D, hDD⟩ : ∃ D, D = dueL (P.take k) nx := ⟨_, rfl⟩
      obtain ⟨L, hLL⟩ : ∃ L, L = offL (P.take k) nx := ⟨_, rfl⟩
      rw [← hDD] at HD hDl HYES HNO ⊢
      rw [← hLL] at HL hLl HYES HNO ⊢
      clear hDD hLL
      by_cases hd : t.due = nx
      · have g1 : (t.due == nx) = true := by simpa using hd
        have e12 := HYES.out hd
        have HE1 : Hid (dueL (P.take (k + 1)) nx = D ++ [t.nm]) := e12.1
        have HE2 : Hid (offL (P.take (k + 1)) nx = L) := e12.2
        clear e12 hd HYES HNO
        go_wp2_with fail
        go_quiet (fail)
        obtain ⟨wx, hwx⟩ : ∃ wx : World, wx = wr.drewN nq := ⟨_, rfl⟩
        have hbx : Below wr.heap.size wr wx := by rw [hwx]; exact below_drewN (Below.refl _ wr) nq
        have hzx : wx.heap.size = wr.heap.size := by rw [hwx]; rfl
        have HDx := Lib.hid (own_below HD.out hbx)
        have HLx := Lib.hid (own_below HL.out hbx)
        have x1 := cell_step Y1.out hbx
        have n0 := cell_step Z0.out hbx
        have n1 := cell_step Z1.out hbx
        have hgx : g < wx.heap.size := by omega
        have hbz : b < wx.heap.size := by omega
        have hwx2 : w.heap.size ≤ wx.heap.size := by omega
        have HBX := Lib.hid (HB.out.trans (Below.mono hbx hwz))
        rw [← hwx]
        clear hwx hzx hbx y0 y1 z0 z1
        go_wp2_with (at_builtin; refine wpl_append rfl (.tmp 35) (.tmp 44) 31 rfl w.heap.size 9 i0 _ 1 16 Try.underlying31 hi hw0 hw1 hw2 rfl (by decide) (.slice ad D.length cd) D.length (D.map Value.string) rfl (HDx.out.alloc _) (some ⟨wx.heap.size, 0, none⟩) 1 1 [.string t.nm] rfl (by simp) rfl ?hL (by simp [Value.oneCell']) (by unfold maxLen; omega) (by omega) ?hB ?_)
        case hL => exact .inr ⟨_, 0, rfl, by rw [size_new]; omega, fun i hi => by
          have hb := (kit.blk (hp_alloc_new wx (.cells #[.string t.nm] 9))).1 0
          match i, hi with | 0, _ => exact hb⟩
        case hB => rw [size_new]; omega
        intro v5 w5 hown hgr
        obtain ⟨a5, c5, rfl⟩ := own_shape hown
        have HB5 : Hid (Below w.heap.size w1 w5) := (HBX.out.alloc hwx2 _).grown hgr (by rw [size_new]; omega) (fun j hj => (HDx.out.lt j hj).1)
        have HL5 : Hid (w5.ownsRow w.heap.size 64 2 (.slice al (offL (P.take (k + 1)) nx).length cl) (offL (P.take (k + 1)) nx).length (rcells (offL (P.take (k + 1)) nx))) := by rw [Hid, HE2.out]; exact own_other HLx.out HDx.out (by decide) hgr
        have HD5 : Hid (w5.ownsRow w.heap.size 9 1 (.slice a5 (dueL (P.take (k + 1)) nx).length c5) (dueL (P.take (k + 1)) nx).length ((dueL (P.take (k + 1)) nx).map Value.string)) := by rw [Hid, HE1.out, List.length_append, List.length_singleton, List.map_append]; exact hown
        have HVD : Hid ((Value.slice a5 (D.length + 1) c5) = .slice a5 (dueL (P.take (k + 1)) nx).length c5) := by rw [Hid, HE1.out, List.length_append, List.length_singleton]
        have HVL : Hid ((Value.slice al L.length cl) = .slice al (offL (P.take (k + 1)) nx).length cl) := by rw [Hid, HE2.out]
        clear hown hgr
        go_wp2_with fail
        go_roundw
        case rel => exact ⟨k + 1, a5, al, c5, cl, by omega, by go_num, HVD.out, HVL.out, HD5, HL5, HB5⟩
        case measure => simp [intOf]; omega
      · have g1 : (t.due == nx) = false := by simpa using hd
        have e12 := HNO.out hd
        have HE1 : Hid (dueL (P.take (k + 1)) nx = D) := e12.1
        have HE2 : Hid (offL (P.take (k + 1)) nx = L ++ [t]) := e12.2
        clear e12 hd HYES HNO
        go_wp2_with fail
        go_quiet (fail)
        obtain ⟨wx, hwx⟩ : ∃ wx : World, wx = wr.drewN nq := ⟨_, rfl⟩
        have hbx : Below wr.heap.size wr wx := by rw [hwx]; exact below_drewN (Below.refl _ wr) nq
        have hzx : wx.heap.size = wr.heap.size := by rw [hwx]; rfl
        have HDx := Lib.hid (own_below HD.out hbx)
        have HLx := Lib.hid (own_below HL.out hbx)
        have x1 := cell_step Y1.out hbx
        have n0 := cell_step Z0.out hbx
        have n1 := cell_step Z1.out hbx
        have hgx : g < wx.heap.size := by omega
        have hbz : b < wx.heap.size := by omega
        have hwx2 : w.heap.size ≤ wx.heap.size := by omega
        have HBX := Lib.hid (HB.out.trans (Below.mono hbx hwz))
        rw [← hwx]
        clear hwx hzx hbx y0 y1 z0 z1
        go_wp2_with (at_builtin; refine wpl_append rfl (.tmp 46) (.tmp 54) 36 rfl w.heap.size 64 j0 _ 2 24 Try.underlying36 hj hy0 hy1 hy2 rfl (by decide) (.slice al L.length cl) L.length (rcells L) rfl (HLx.out.alloc _) (some ⟨wx.heap.size, 0, none⟩) 1 1 [.string t.nm, .int .i64 t.due] rfl (by simp) rfl ?hL (by simp [Value.oneCell']) (by unfold maxLen; omega) (by omega) ?hB ?_)
        case hL => exact lie_new2 wx _ _ _
        case hB => rw [size_new]; omega
        intro v5 w5 hown hgr
        obtain ⟨a5, c5, rfl⟩ := own_shape hown
        have HB5 : Hid (Below w.heap.size w1 w5) := (HBX.out.alloc hwx2 _).grown hgr (by rw [size_new]; omega) (fun j hj => (HLx.out.lt j hj).1)
        have HD5 : Hid (w5.ownsRow w.heap.size 9 1 (.slice ad (dueL (P.take (k + 1)) nx).length cd) (dueL (P.take (k + 1)) nx).length ((dueL (P.take (k + 1)) nx).map Value.string)) := by rw [Hid, HE1.out]; exact own_other HDx.out HLx.out (by decide) hgr
        have HL5 : Hid (w5.ownsRow w.heap.size 64 2 (.slice a5 (offL (P.take (k + 1)) nx).length c5) (offL (P.take (k + 1)) nx).length (rcells (offL (P.take (k + 1)) nx))) := by rw [Hid, HE2.out, List.length_append, List.length_singleton, rcells_append]; exact hown
        have HVD : Hid ((Value.slice ad D.length cd) = .slice ad (dueL (P.take (k + 1)) nx).length cd) := by rw [Hid, HE1.out]
        have HVL : Hid ((Value.slice a5 (L.length + 1) c5) = .slice a5 (offL (P.take (k + 1)) nx).length c5) := by rw [Hid, HE2.out, List.length_append, List.length_singleton]
        clear hown hgr
        go_wp2_with fail
        go_roundw
        case rel => exact ⟨k + 1, ad, a5, cd, c5, by omega, by go_num, HVD.out, HVL.out, HD5, HL5, HB5⟩
        case measure => simp [intOf]; omega
    · obtain rfl : k = P.length := by omega
      rw [List.take_length] at HD HL ⊢
      have hput := ref_put (base := base) (now := nx) (P := P) h1 HBK.out (own_mono HL.out hbw) (hB1.block b hz1) ((keep_of_below base hB1))
      have hfin := hput.2.2.2
      obtain ⟨⟨v9, u1⟩, u2, u3, -⟩ := hput
      have HF := Lib.hid hfin
      have HDF : Hid ((wr.setCell ⟨b, 1, none⟩ (.slice al (offL P nx).length cl)).ownsRow w.heap.size 9 1 (.slice ad (dueL P nx).length cd) (dueL P nx).length ((dueL P nx).map Value.string)) := own_kept HD.out (fun g hg => hp_set_ne (by have := (own_from HD.out g hg).1; show g ≠ b; omega))
      clear hfin q1 q2 hbr hB1 hk
      go_wp2_with fail
      go_ret
      rw [HT.out] at HDF ⊢
      exact ⟨ad, cd, rfl, HDF.out, ⟨_, by rw [HNX.out]; exact HF.out.1, HRT.out⟩, cr_trans HK1.out HF.out.2⟩
end Go.Proofs.Ytejjnhgiijhglaa.rclku
