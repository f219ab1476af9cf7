/-
  The document's acceptor: Prepare and Forget.
-/
import Derived.Test.YtafjmedjaepimaaAccT
import Derived.StillTailTactics
namespace Go.Proofs.Ytafjmedjaepimaa.accu
open Go.ChangeShapes Go.WideShapes Go.ChangeAt Go.RowKit Go.Joins
open Go.Proofs.Ytafjmedjaepimaa.kit Go.Proofs.Ytafjmedjaepimaa.mapkit Go.Proofs.Ytafjmedjaepimaa.byt Go.Proofs.Ytafjmedjaepimaa.own Go.Proofs.Ytafjmedjaepimaa.accd Go.Proofs.Ytafjmedjaepimaa.acca Go.Proofs.Ytafjmedjaepimaa.accb Go.Proofs.Ytafjmedjaepimaa.acck Go.Proofs.Ytafjmedjaepimaa.acce Go.Proofs.Ytafjmedjaepimaa.accf Go.Proofs.Ytafjmedjaepimaa.accg Go.Proofs.Ytafjmedjaepimaa.acch Go.Proofs.Ytafjmedjaepimaa.acci Go.Proofs.Ytafjmedjaepimaa.accj Go.Proofs.Ytafjmedjaepimaa.accr Go.Proofs.Ytafjmedjaepimaa.accl Go.Proofs.Ytafjmedjaepimaa.acct
set_option linter.unusedVariables false
set_option linter.unusedSimpArgs false
set_option maxHeartbeats 1000000
set_option maxRecDepth 100000

/-- What a store into the block leaves. -/
theorem RefAt.ballot {w0 W : World} {lo br : Nat} {R : AS} (h : RefAt w0 W lo br R) (r n : Int) : RefAt w0 ((W.setCell ⟨br, 0, none⟩ (.int .i64 r)).setCell ⟨br, 1, none⟩ (.int .i64 n)) lo br ⟨r, n, R.first, R.vs⟩ := by
  obtain ⟨h0, a, c, xs, h1, h2, h3, h4⟩ := h
  refine ⟨h0, a, c, xs, hp_set (hp_set h1 0 _) 1 _, own_kept h2 (fun g hg => ?_), h3, h4⟩
  have hne := own_ne h2 h1 (by decide) g hg
  exact (hp_set_ne hne).trans (hp_set_ne hne)
theorem keep_br (W : World) (br : Nat) : Keep (fun k => k = br) W W := Keep.refl _ W

theorem rprepare_ok (w0 W : World) (lo br : Nat) (R : AS) (r n d : Int) (h : RefAt w0 W lo br R) (hlen : R.vs.length ≤ 16) :
    Calls Try.prog 38 #[.pointer (some ⟨br, 0, none⟩), .agg #[.int .i64 r, .int .i64 n], .int .i64 d] W fun e w' => ∃ v, e = .returned (.tuple #[v, .int .i64 (prepE R r n)]) ∧ (if prepE R r n = 0 then FromT w0 W (from4 R.vs d) v w' else v = .slice none 0 0) ∧ RefAt w0 w' lo br (prepS R r n) ∧ Keep (fun k => k = br) W w' := by
  obtain ⟨w1, hw1⟩ : ∃ w1, w1 = W.alloc (.cells #[.int .i64 r, .int .i64 n] 28) := ⟨_, rfl⟩
  have hb1 : Below W.heap.size W w1 := by rw [hw1]; exact below_new1 _ _
  have hn1 : w1.heap[W.heap.size]? = some (.cells #[.int .i64 r, .int .i64 n] 28 (0, 0)) := by rw [hw1]; exact hp_alloc_new _ _
  have hbrz := h.lt
  obtain ⟨q0, q1, -, -, qz⟩ := blk2 hn1
  have HW := Lib.hid hw1
  have HB1 := Lib.hid hb1
  have HN1 := Lib.hid hn1
  have HH := Lib.hid h
  have HT := Lib.hid (turn_any r n w1)
  clear hw1 hb1 hn1 h
  by_cases hre : realB r n = false
  · have hE : prepE R r n = 1 := by rw [prepE, if_pos hre]
    have hS : prepS R r n = R := by rw [prepS, if_neg (by rw [hE]; decide)]
    rw [hre] at HT
    rw [hE, hS]
    clear hre hE hS
    go_enter Try.func38, Try.ntmps38
    go_wp2_with fail
    rw [← HW.out]
    refine HT.out.mono ?_; rintro e w2 ⟨rfl, hb2⟩
    have HB2 := Lib.hid (below_step HB1.out hb2)
    clear hb2 HT
    go_wp2_with fail
    exact bodyPost_ret (v := .tuple #[.slice none 0 0, .int .i64 1]) (by simp [results, Try.results38, go_sem]) rfl ⟨_, rfl, by simp, HH.out.below HB2.out, Keep.of_below HB2.out⟩
  · have hre' : realB r n = true := by simpa using hre
    rw [hre'] at HT
    by_cases hL : lessB r n R.r R.n = true
    · have hE : prepE R r n = 90 := by rw [prepE, if_neg hre, if_pos hL]
      have hS : prepS R r n = R := by rw [prepS, if_neg (by rw [hE]; decide)]
      rw [hE, hS]
      have HLL := Lib.hid hL
      clear hre hre' hE hS hL
      go_enter Try.func38, Try.ntmps38
      go_wp2_with fail
      rw [← HW.out]
      refine HT.out.mono ?_; rintro e w2 ⟨rfl, hb2⟩
      have HB2 := Lib.hid (below_step HB1.out hb2)
      have hR2 := HH.out.below HB2.out
      obtain ⟨-, a, c, xs, hblk, -⟩ := hR2
      obtain ⟨c0, c1, c2, c3, cz⟩ := blk4 hblk
      obtain ⟨q0, q1, -, -, qz⟩ := blk2 (hp_step HN1.out hb2)
      have HLE := Lib.hid (rless_any r n R.r R.n w2.drew)
      rw [HLL.out] at HLE
      clear hb2 hblk HT
      go_wp2_with fail
      go_still_tail 5, (by kernel_rfl)
      change wpList _ _ _ _ _ w2.drew
      go_wp2_with fail
      refine HLE.out.mono ?_; rintro e w3 ⟨rfl, hb3⟩
      have HB3 := Lib.hid (below_step HB2.out (below_step (below_drewN (Below.refl _ w2) 1) hb3))
      clear hb3 HLE
      go_wp2_with fail
      exact bodyPost_ret (v := .tuple #[.slice none 0 0, .int .i64 90]) (by simp [results, Try.results38, go_sem]) rfl ⟨_, rfl, by simp, HH.out.below HB3.out, Keep.of_below HB3.out⟩
    · have hL' : lessB r n R.r R.n = false := by simpa using hL
      have hE : prepE R r n = 0 := by rw [prepE, if_neg hre, if_neg hL]
      have hS : prepS R r n = ⟨r, n, R.first, R.vs⟩ := by rw [prepS, if_pos hE]
      rw [hE, hS]
      have HLL := Lib.hid hL'
      clear hre hre' hE hS hL hL'
      go_enter Try.func38, Try.ntmps38
      go_wp2_with fail
      rw [← HW.out]
      refine HT.out.mono ?_; rintro e w2 ⟨rfl, hb2⟩
      have HB2 := Lib.hid (below_step HB1.out hb2)
      have HN2 := Lib.hid (hp_step HN1.out hb2)
      have hR2 := HH.out.below HB2.out
      obtain ⟨-, a, c, xs, hblk, -⟩ := hR2
      obtain ⟨c0, c1, c2, c3, cz⟩ := blk4 hblk
      obtain ⟨q0, q1, -, -, qz⟩ := blk2 HN2.out
      have HLE := Lib.hid (rless_any r n R.r R.n w2.drew)
      rw [HLL.out] at HLE
      clear hb2 hblk HT
      go_wp2_with fail
      go_still_tail 5, (by kernel_rfl)
      change wpList _ _ _ _ _ w2.drew
      go_wp2_with fail
      refine HLE.out.mono ?_; rintro e w3 ⟨rfl, hb3⟩
      have hb03 := below_step HB2.out (below_step (below_drewN (Below.refl _ w2) 1) hb3)
      have HB3 := Lib.hid hb03
      have hR3 := HH.out.below hb03
      have HN3 := Lib.hid (hp_step HN2.out (below_step (below_drewN (Below.refl _ w2) 1) hb3))
      have HR3 := Lib.hid hR3
      obtain ⟨-, a3, c3', xs3, hblk3, -⟩ := hR3
      clear c0 c1 c2 c3 cz q0 q1 qz
      obtain ⟨c0, c1, c2, c3, cz⟩ := blk4 hblk3
      obtain ⟨f0, f1, f2, f3⟩ := blk4f hblk3
      obtain ⟨q0, q1, -, -, qz⟩ := blk2 HN3.out
      have hR4 := RefAt.ballot HR3.out r n
      have hk4 : Keep (fun k => k = br) w3 ((w3.setCell ⟨br, 0, none⟩ (.int .i64 r)).setCell ⟨br, 1, none⟩ (.int .i64 n)) := ((Keep.refl (fun k => k = br) w3).setCell (p := ⟨br, 0, none⟩) (.inr (show (fun k => k = br) br from rfl)) _).setCell (p := ⟨br, 1, none⟩) (.inr (show (fun k => k = br) br from rfl)) _
      obtain ⟨w4, hw4⟩ : ∃ w4 : World, w4 = (w3.setCell ⟨br, 0, none⟩ (.int .i64 r)).setCell ⟨br, 1, none⟩ (.int .i64 n) := ⟨_, rfl⟩
      rw [← hw4] at hR4 hk4
      have HR4 := Lib.hid hR4
      have HK4 := Lib.hid ((Keep.of_below HB3.out).trans hk4)
      have HW4 := Lib.hid hw4
      have HFR := Lib.hid (from_ok w0 w4 lo br ⟨r, n, R.first, R.vs⟩ d hR4 hlen)
      clear hb3 hb03 hblk3 hR4 hk4 hw4 HLE
      go_wp2_with fail
      rw [← HW4.out]
      refine HFR.out.mono ?_; rintro e w5 ⟨v, rfl, hf, hb5⟩
      have HR5 := Lib.hid (HR4.out.below hb5)
      have HK5 := Lib.hid (HK4.out.trans (Keep.of_below hb5))
      have HF := Lib.hid hf
      have hsz := HK4.out.size
      clear hf hb5 HFR
      go_wp2_with fail
      refine bodyPost_ret (v := .tuple #[v, .int .i64 0]) (by simp [results, Try.results38, go_sem]) rfl ⟨_, rfl, ?_, HR5.out, HK5.out⟩
      try rw [if_pos rfl]
      obtain ⟨av, cv, zs, rfl, hr, hz, hd⟩ := HF.out
      exact ⟨av, cv, zs, rfl, own_mono hr hsz, hz, hd⟩

theorem rforget_ok (w0 W : World) (lo br : Nat) (R : AS) (d : Int) (h : RefAt w0 W lo br R) (hlen : R.vs.length ≤ 16) (hlo : lo ≤ W.heap.size) :
    Calls Try.prog 39 #[.pointer (some ⟨br, 0, none⟩), .int .i64 d] W fun e w' => e = .returned (.int .i64 (forgetE R d)) ∧ RefAt w0 w' lo br (forgetS R d) ∧ Keep (fun k => k = br) W w' := by
  have HH := Lib.hid h
  have hbrz := h.lt
  obtain ⟨-, a, c, xs, hblk, -, hxs, -⟩ := h
  have hxl : xs.length = R.vs.length := by rw [← hxs, List.length_map]
  obtain ⟨c0, c1, c2, c3, cz⟩ := blk4 hblk
  have HFR := Lib.hid (from_ok w0 W lo br R d HH.out hlen)
  have HBLK := Lib.hid hblk
  clear hblk hxs
  by_cases h1 : d ≤ R.first
  · have hn : ¬ fgt R.first d := by unfold fgt; omega
    rw [forgetE, forgetS, if_neg hn, if_neg hn]
    have t1 : decide (d ≤ R.first) = true := decide_eq_true h1
    clear hn
    go_enter Try.func39, Try.ntmps39
    go_wp2_with fail
    go_ret
    exact ⟨rfl, HH.out, Keep.refl _ _⟩
  · have t1 : decide (d ≤ R.first) = false := decide_eq_false h1
    by_cases h2 : 1099511627776 < d
    · have hn : ¬ fgt R.first d := by unfold fgt; omega
      rw [forgetE, forgetS, if_neg hn, if_neg hn]
      have t2 : decide (1099511627776 < d) = true := decide_eq_true h2
      clear hn
      go_enter Try.func39, Try.ntmps39
      go_wp2_with fail
      go_ret
      exact ⟨rfl, HH.out, Keep.refl _ _⟩
    · have t2 : decide (1099511627776 < d) = false := decide_eq_false h2
      have hf : fgt R.first d := ⟨by omega, by omega⟩
      rw [forgetE, forgetS, if_pos hf, if_pos hf]
      clear hf h1 h2
      go_enter Try.func39, Try.ntmps39
      go_wp2_with fail
      refine HFR.out.mono ?_; rintro e w5 ⟨v, rfl, hf, hb5⟩
      obtain ⟨av, cv, zs, rfl, hr, hz, hd⟩ := hf
      have hblk5 := hp_step HBLK.out hb5
      have hzl : zs.length = (from4 R.vs d).length := by rw [← hz, List.length_map]
      have hzle : (from4 R.vs d).length ≤ R.vs.length := List.length_filter_le _ _
      obtain ⟨d0, d1, d2, d3, dz⟩ := blk4 hblk5
      obtain ⟨f0, f1, f2, f3⟩ := blk4f hblk5
      have hb6 := hp_set (hp_set hblk5 3 (.slice av zs.length cv)) 2 (.int .i64 d)
      have hk6 : Keep (fun k => k = br) w5 ((w5.setCell ⟨br, 3, none⟩ (.slice av zs.length cv)).setCell ⟨br, 2, none⟩ (.int .i64 d)) := ((Keep.refl (fun k => k = br) w5).setCell (p := ⟨br, 3, none⟩) (.inr (show (fun k => k = br) br from rfl)) _).setCell (p := ⟨br, 2, none⟩) (.inr (show (fun k => k = br) br from rfl)) _
      have hR6 : RefAt w0 ((w5.setCell ⟨br, 3, none⟩ (.slice av zs.length cv)).setCell ⟨br, 2, none⟩ (.int .i64 d)) lo br ⟨R.r, R.n, d, from4 R.vs d⟩ := by
        refine ⟨HH.out.hlo, av, cv, zs, hb6, own_kept (own_mono hr hlo) (fun g hg => ?_), hz, hd⟩
        have hne := own_ne hr hblk5 (by decide) g hg
        exact (hp_set_ne hne).trans (hp_set_ne hne)
      obtain ⟨w6, hw6⟩ : ∃ w6 : World, w6 = (w5.setCell ⟨br, 3, none⟩ (.slice av zs.length cv)).setCell ⟨br, 2, none⟩ (.int .i64 d) := ⟨_, rfl⟩
      rw [← hw6] at hR6 hk6 hb6
      have HR6 := Lib.hid hR6
      have HK6 := Lib.hid ((Keep.of_below hb5).trans hk6)
      have HW6 := Lib.hid hw6
      obtain ⟨g0, g1, g2, g3, gz⟩ := blk4 (show w6.heap[br]? = some (.cells #[.int .i64 R.r, .int .i64 R.n, .int .i64 d, .slice av zs.length cv] 49 (0, 0)) from hb6)
      have hsub : IntKind.i64.wrap ((R.vs.length : Int) - (zs.length : Int)) = (R.vs.length : Int) - (zs.length : Int) := IntWalk.i64_in _ (by omega)
      have HXZ := Lib.hid (show (R.vs.length : Int) - (zs.length : Int) = (R.vs.length : Int) - ((from4 R.vs d).length : Int) by omega)
      clear hb5 hr hz hd hblk5 hb6 hk6 hR6 hw6 hzl hzle hxl hlen HFR HBLK HH
      go_wp2_with fail
      rw [← HW6.out]
      go_wp2_with fail
      go_ret
      exact ⟨by rw [HXZ.out]; rfl, HR6.out, HK6.out⟩
end Go.Proofs.Ytafjmedjaepimaa.accu
