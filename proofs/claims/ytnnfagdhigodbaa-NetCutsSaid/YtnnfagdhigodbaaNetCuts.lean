/-
  NetCuts: what is sent between two that are cut is lost, both ways, till they are healed; all others go on.
-/
import Derived.Test.YtnnfagdhigodbaaNetW
import Derived.Test.YtnnfagdhigodbaaChecked
import Derived.Test.YtnnfagdhigodbaaRows
import Derived.Deep.CutRange
import Derived.Deep.QuietTactic
import Derived.BigQuiet
import Derived.Deep.RegionLaw
namespace Go.Proofs.Ytnnfagdhigodbaa.netCuts
open Go.ChangeShapes Go.WideShapes Go.ChangeAt Go.RowKit Go.Joins
open Go.Proofs.Ytnnfagdhigodbaa.kit Go.Proofs.Ytnnfagdhigodbaa.byt Go.Proofs.Ytnnfagdhigodbaa.netc Go.Proofs.Ytnnfagdhigodbaa.netg Go.Proofs.Ytnnfagdhigodbaa.nets Go.Proofs.Ytnnfagdhigodbaa.netq Go.Proofs.Ytnnfagdhigodbaa.netr
set_option linter.unusedVariables false
set_option linter.unusedSimpArgs false
set_option maxHeartbeats 20000000
set_option maxRecDepth 100000

def idx (m a0 : Int) : Int := 1 + (IntKind.u64.wrap a0).tmod m
theorem idx_in {m : Int} (h1 : 1 ≤ m) (a0 : Int) : isN m (idx m a0) := by
  have h := wrap_u64_nonneg a0
  have e1 := Int.tmod_nonneg m h
  have e2 := Int.tmod_lt_of_pos (IntKind.u64.wrap a0) (b := m) (by omega)
  unfold idx isN
  omega
theorem idx_wrap {m : Int} (h1 : 1 ≤ m) (h2 : m ≤ 5) (a0 : Int) : wrap64 (1 + wrap64 ((IntKind.u64.wrap a0).tmod m)) = idx m a0 := by
  have h := wrap_u64_nonneg a0
  have e1 := Int.tmod_nonneg m h
  have e2 := Int.tmod_lt_of_pos (IntKind.u64.wrap a0) (b := m) (by omega)
  unfold idx wrap64
  omega
theorem wrap_small {m : Int} (h1 : 1 ≤ m) (h2 : m ≤ 5) : IntKind.u64.wrap m = m := by
  simp [IntKind.wrap, IntKind.bits, IntKind.signed]; omega

theorem send_in {m : Int} {qs : List Q} {S : Cuts} {x y : Int} {l : List Nat} (hx : isN m x) (hy : isN m y) (hl : l.length ≤ 16384) (hS : pr x y ∉ S) (hq : qs.length < 256) : sendE m qs S x y l.length = 0 ∧ sendQ m qs S x y l = qs ++ [⟨x, y, l⟩] := by
  have hm : may m x y l.length := ⟨hx, hy, hl⟩
  exact ⟨by rw [sendE, if_neg (not_not_intro hm), if_neg hS, if_neg (by omega)], by rw [sendQ, if_neg (not_not_intro hm), if_neg hS, if_neg (by omega)]⟩
theorem send_off {m : Int} {qs : List Q} {S : Cuts} {x y : Int} {l : List Nat} (hx : isN m x) (hy : isN m y) (hl : l.length ≤ 16384) (hS : pr x y ∈ S) : sendE m qs S x y l.length = 0 ∧ sendQ m qs S x y l = qs := by
  have hm : may m x y l.length := ⟨hx, hy, hl⟩
  exact ⟨by rw [sendE, if_neg (not_not_intro hm), if_pos hS], by rw [sendQ, if_neg (not_not_intro hm), if_pos hS]⟩
theorem pr_swap (x y : Int) : pr y x = pr x y := by simp only [pr, Prod.mk.injEq]; omega
theorem pr_other {x y z : Int} (h : z ≠ y) : pr x z ∉ [pr x y] := by
  simp only [pr, List.mem_singleton, Prod.mk.injEq]; omega
theorem cut_in {m x y : Int} (hx : isN m x) (hy : isN m y) (h : x ≠ y) : cutE m x y = 0 ∧ cutS m [] x y = [pr x y] := by
  have hc : cutM m x y := ⟨hx, hy, h⟩
  exact ⟨by rw [cutE, if_pos hc], by rw [cutS, if_pos hc, cadd, if_neg (by simp)]; rfl⟩
def lenIn (w : World) (b : Nat) : Nat := match w.cell? ⟨b, 1, none⟩ with | some (.slice _ n _) => n | _ => 0
theorem lenIn_is {w : World} {base b : Nat} {m : Int} {qs : List Q} {S : Cuts} (h : NetIs w base b m qs S) : lenIn w b = qs.length := by
  obtain ⟨ps, ⟨h1, ⟨a, c, mb, h2, _⟩, _⟩, rfl⟩ := h
  rw [lenIn, (blk3 h2).2.1, List.length_map]

theorem cuts_ok (w : World) (n0 a0 b0 c0 : Int) (a : Option Addr) (l : List OpV) (cap : Nat) (ad : Option Addr) (bs : List Nat) (kc : Nat) (hl : l.length ≤ 9223372036854775807) (hat : RowsAt w a 4 (l.map ocells)) (hok : ∀ k (hk : k < l.length), GoodO w (l[k]))
    (hn : ad = none → bs.length = 0 ∧ kc = 0) (hlie : Lie w ad (bcells bs)) :
    Calls Try.prog 3 #[.int .i64 n0, .slice a l.length cap, .int .i64 a0, .int .i64 b0, .int .i64 c0, .slice ad bs.length kc] w fun e w' => e = .returned (.bool true) ∧ Below w.heap.size w w' := by
  obtain ⟨hm1, hm2⟩ := most_in n0
  have HRan := Lib.hid (ran_ok w n0 a l cap hl hat hok)
  have HFit := Lib.hid (stOf_fit (most n0) l)
  have hw := most_wrap n0
  clear hat hok
  obtain ⟨qs, hqs⟩ : ∃ qs, qs = (stOf (most n0) l).qs := ⟨_, rfl⟩
  obtain ⟨S, hS⟩ : ∃ S, S = (stOf (most n0) l).S := ⟨_, rfl⟩
  rw [← hqs, ← hS] at HRan
  rw [← hqs] at HFit
  obtain ⟨m, hm⟩ : ∃ m, m = most n0 := ⟨_, rfl⟩
  rw [← hm] at HRan hm1 hm2 hw
  clear hqs hS hm
  have HL := Lib.hid (fun W (h : Below w.heap.size w W) => hlie.below h)
  have hx := idx_wrap hm1 hm2 a0
  have hy := idx_wrap hm1 hm2 b0
  have hz := idx_wrap hm1 hm2 c0
  have HX := Lib.hid (idx_in hm1 a0)
  have HY := Lib.hid (idx_in hm1 b0)
  have HZ := Lib.hid (idx_in hm1 c0)
  have hum := wrap_small hm1 hm2
  have hm0 : (m == 0) = false := by simp; omega
  have hm00 : ¬ m = 0 := by omega
  obtain ⟨x, hx'⟩ : ∃ x, x = idx m a0 := ⟨_, rfl⟩
  obtain ⟨y, hy'⟩ : ∃ y, y = idx m b0 := ⟨_, rfl⟩
  obtain ⟨z, hz'⟩ : ∃ z, z = idx m c0 := ⟨_, rfl⟩
  rw [← hx'] at hx HX; rw [← hy'] at hy HY; rw [← hz'] at hz HZ
  clear hlie hx' hy' hz' hm1 hm2
  go_enter Try.func3, Try.ntmps3
  go_wp2_with fail
  refine HRan.out.mono ?_; rintro e w1 ⟨rfl, hn1, hb1⟩
  have HN1 := Lib.hid hn1
  have HB1 := Lib.hid hb1
  clear hn1 hb1 HRan
  go_wp2_with fail
  refine (awake_ok w1).mono ?_; rintro e w2 ⟨rfl, hb2⟩
  have HN2 := Lib.hid (HN1.out.below hb2)
  have HB2 := Lib.hid (below_step HB1.out hb2)
  clear hb2
  go_wp2_with fail
  go_big_quiet (fail)
  rw [hx, hy, hz, hw]
  obtain ⟨w0, hw0⟩ : ∃ w0 : World, w0 = w2.drewN nq := ⟨_, rfl⟩
  rw [← hw0]
  have HN0 := Lib.hid (hw0 ▸ HN2.out.below (below_drewN (Below.refl _ w2) nq))
  have HB0 := Lib.hid (hw0 ▸ below_step HB2.out (below_drewN (Below.refl _ w2) nq))
  clear hx hy hz hw hw0 HN1 HB1 HN2 HB2 hum hm0 hm00
  by_cases hlong : 16384 < bs.length
  · have ht : decide ((16384 : Int) < bs.length) = true := decide_eq_true (by omega)
    have ht2 : (16384 : Int) < bs.length := by omega
    have hE : sendE m qs S x y bs.length = 1 := by rw [sendE, if_pos (fun h => by have := h.2.2; omega)]
    have HC := Lib.hid (sendq w0 _ _ _ _ _ x y ad bs kc HN0.out HB0.out.size hn (HL.out w0 HB0.out))
    rw [hE] at HC
    clear hlong hE
    go_wp2_with fail
    refine HC.out.mono ?_; rintro e w3 ⟨rfl, hn3, hb3⟩
    go_wp2_with fail
    go_ret
    exact ⟨rfl, HB0.out.trans hb3⟩
  · have ht : decide ((16384 : Int) < bs.length) = false := decide_eq_false (by omega)
    have ht2 : ¬ (16384 : Int) < bs.length := by omega
    have hlen : bs.length ≤ 16384 := by omega
    clear hlong
    go_wp2_with fail
    refine (healq w0 _ _ _ _ _ HN0.out HB0.out.size).mono ?_; rintro e w3 ⟨rfl, hn3, hb3⟩
    have HN3 := Lib.hid hn3
    have HB3 := Lib.hid (HB0.out.trans hb3)
    clear hn3 hb3 HN0 HB0
    go_wp2_with fail
    go_loopw [15] (fun p wr => ∃ (qs' : List Q), Hid (Fit qs') ∧ Hid (NetIs wr w.heap.size (w.heap.size + 1) m qs' []) ∧ Hid (Below w.heap.size w wr)) (fun _ wr => lenIn wr (w.heap.size + 1))
    case atStart => exact ⟨qs, HFit, HN3, HB3⟩
    case round =>
      obtain ⟨qs', hF, hN, hB⟩ := hrel
      cases qs' with
      | cons q0 r =>
        have HLEN := Lib.hid (lenq wr _ _ _ _ _ hN.out)
        have HLEN2 := Lib.hid (fun W (h : NetIs W w.heap.size (w.heap.size + 1) m r []) => lenq W _ _ _ _ _ h)
        have HC := Lib.hid (dropq wr _ _ _ _ _ 0 hN.out hB.out.size)
        have hE : takeE (q0 :: r) 0 = 0 := by rw [takeE, if_pos ⟨by omega, by simp⟩]
        have hQ : takeQ (q0 :: r) 0 = r := by rw [takeQ, if_pos ⟨by omega, by simp⟩]; rfl
        have hF' := Lib.hid (hF.out.take 0)
        rw [hQ] at hF'
        rw [hE, hQ] at HC
        have hM := Lib.hid (lenIn_is hN.out)
        rw [List.length_cons] at HLEN hM
        obtain ⟨n, hnn⟩ : ∃ n, n = r.length := ⟨_, rfl⟩
        have HNN := Lib.hid hnn
        have hn5 : n ≤ 255 := by have := hF.out.1; simp at this; omega
        have h0 : (0 : Int) < (n : Int) + 1 := by omega
        have h1 : wrap64 (n : Int) = n := by unfold wrap64; omega
        have h2 : wrap64 ((n : Int) + 1 - 1) = n := by unfold wrap64; omega
        rw [← hnn] at HLEN HLEN2 hM
        clear hE hQ hnn
        go_wp2_with fail
        refine HLEN.out.mono ?_; rintro e w4 ⟨rfl, rfl⟩
        go_wp2_with fail
        refine HLEN.out.mono ?_; rintro e w4 ⟨rfl, rfl⟩
        go_wp2_with fail
        refine HC.out.mono ?_; rintro e w4 ⟨rfl, hn4, hb4⟩
        have HN4 := Lib.hid hn4
        have HB4 := Lib.hid (hB.out.trans hb4)
        clear hn4 hb4 HC
        go_wp2_with fail
        refine (HLEN2.out _ HN4.out).mono ?_; rintro e w5 ⟨rfl, rfl⟩
        go_wp2_with fail
        go_roundw
        case rel => exact ⟨r, hF', HN4, HB4⟩
        case measure => have e1 := lenIn_is HN4.out; have e2 := hM.out; have e3 := HNN.out; omega
      | nil =>
        have HLEN := Lib.hid (fun W S (h : NetIs W w.heap.size (w.heap.size + 1) m [] S) => lenq W _ _ _ _ _ h)
        have HC := Lib.hid (cutq wr _ _ _ _ _ x y hN.out hB.out.size)
        simp only [List.length_nil] at HLEN
        by_cases hxy : x = y
        · have hE : cutE m x y = 1 := by rw [cutE, if_neg (fun h => h.2.2 hxy)]
          rw [hE] at HC
          clear hE
          subst hxy
          go_wp2_with fail
          refine (HLEN.out _ _ hN.out).mono ?_; rintro e w4 ⟨rfl, rfl⟩
          go_wp2_with fail
          refine HC.out.mono ?_; rintro e w4 ⟨rfl, hn4, hb4⟩
          have HB4 := Lib.hid (hB.out.trans hb4)
          clear hn4 hb4 HC
          go_wp2_with fail
          go_ret
          exact ⟨rfl, HB4.out⟩
        · have hE := (cut_in HX.out HY.out hxy).1
          have hQ := (cut_in HX.out HY.out hxy).2
          rw [hE, hQ] at HC
          have hne : (x == y) = false := by simpa using hxy
          clear hE hQ
          go_wp2_with fail
          refine (HLEN.out _ _ hN.out).mono ?_; rintro e w4 ⟨rfl, rfl⟩
          go_wp2_with fail
          refine HC.out.mono ?_; rintro e w4 ⟨rfl, hn4, hb4⟩
          have HN4 := Lib.hid hn4
          have HB4 := Lib.hid (hB.out.trans hb4)
          clear hn4 hb4 HC hN hB
          go_wp2_with fail
          refine (sendq w4 _ _ _ _ _ x y ad bs kc HN4.out HB4.out.size hn (HL.out w4 HB4.out)).mono ?_
          rw [(send_off HX.out HY.out hlen (by simp)).1, (send_off HX.out HY.out hlen (by simp)).2]
          rintro e w5 ⟨rfl, hn5, hb5⟩
          have HN5 := Lib.hid hn5
          have HB5 := Lib.hid (HB4.out.trans hb5)
          clear hn5 hb5
          go_wp2_with fail
          refine (sendq w5 _ _ _ _ _ y x ad bs kc HN5.out HB5.out.size hn (HL.out w5 HB5.out)).mono ?_
          rw [(send_off HY.out HX.out hlen (by rw [pr_swap]; simp)).1, (send_off HY.out HX.out hlen (by rw [pr_swap]; simp)).2]
          rintro e w6 ⟨rfl, hn6, hb6⟩
          have HN6 := Lib.hid hn6
          have HB6 := Lib.hid (HB5.out.trans hb6)
          clear hn6 hb6
          go_wp2_with fail
          refine (HLEN.out _ _ HN6.out).mono ?_; rintro e w7 ⟨rfl, rfl⟩
          go_wp2_with fail
          refine (sendq w6 _ _ _ _ _ x x ad bs kc HN6.out HB6.out.size hn (HL.out w6 HB6.out)).mono ?_
          rw [(send_in HX.out HX.out hlen (pr_other hxy) (by simp)).1, (send_in HX.out HX.out hlen (pr_other hxy) (by simp)).2]
          rintro e w8 ⟨rfl, hn8, hb8⟩
          have HNw8 := Lib.hid hn8
          have HBw8 := Lib.hid (HB6.out.trans hb8)
          clear hn8 hb8 HN4 HN5 HN6 HB4 HB5 HB6 HLEN
          by_cases hz1 : z = x
          · have HK := Lib.hid (show ([] ++ [(⟨x, x, bs⟩ : Q)]).length = 1 from rfl)
            have hz1 := hz1.symm; subst hz1
            go_wp2_with fail
            refine (lenq w8 _ _ _ _ _ HNw8.out).mono ?_; rintro e wl ⟨rfl, rfl⟩
            rw [HK.out]
            go_wp2_with fail
            refine (healq w8 _ _ _ _ _ HNw8.out HBw8.out.size).mono ?_; rintro e wh ⟨rfl, hnh, hbh⟩
            have HNh := Lib.hid hnh
            have HBh := Lib.hid (HBw8.out.trans hbh)
            clear hnh hbh
            go_wp2_with fail
            refine (sendq wh _ _ _ _ _ y x ad bs kc HNh.out HBh.out.size hn (HL.out wh HBh.out)).mono ?_
            rw [(send_in HY.out HX.out hlen (by simp) (by rw [HK.out]; omega)).1, (send_in HY.out HX.out hlen (by simp) (by rw [HK.out]; omega)).2]
            rintro e ws ⟨rfl, hns, hbs⟩
            have HNs := Lib.hid hns
            have HBs := Lib.hid (HBh.out.trans hbs)
            clear hns hbs
            go_wp2_with fail
            refine (lenq ws _ _ _ _ _ HNs.out).mono ?_; rintro e wl ⟨rfl, rfl⟩
            rw [List.length_append, HK.out]
            go_wp2_with fail
            go_ret
            exact ⟨rfl, HBs.out⟩
          · by_cases hz2 : z = y
            · have hz1' : (z == x) = false := by simpa using hz1
              have HK := Lib.hid (show ([] ++ [(⟨x, x, bs⟩ : Q)]).length = 1 from rfl)
              have hz2 := hz2.symm; subst hz2
              go_wp2_with fail
              refine (lenq w8 _ _ _ _ _ HNw8.out).mono ?_; rintro e wl ⟨rfl, rfl⟩
              rw [HK.out]
              go_wp2_with fail
              refine (healq w8 _ _ _ _ _ HNw8.out HBw8.out.size).mono ?_; rintro e wh ⟨rfl, hnh, hbh⟩
              have HNh := Lib.hid hnh
              have HBh := Lib.hid (HBw8.out.trans hbh)
              clear hnh hbh
              go_wp2_with fail
              refine (sendq wh _ _ _ _ _ y x ad bs kc HNh.out HBh.out.size hn (HL.out wh HBh.out)).mono ?_
              rw [(send_in HY.out HX.out hlen (by simp) (by rw [HK.out]; omega)).1, (send_in HY.out HX.out hlen (by simp) (by rw [HK.out]; omega)).2]
              rintro e ws ⟨rfl, hns, hbs⟩
              have HNs := Lib.hid hns
              have HBs := Lib.hid (HBh.out.trans hbs)
              clear hns hbs
              go_wp2_with fail
              refine (lenq ws _ _ _ _ _ HNs.out).mono ?_; rintro e wl ⟨rfl, rfl⟩
              rw [List.length_append, HK.out]
              go_wp2_with fail
              go_ret
              exact ⟨rfl, HBs.out⟩
            · have hz1' : (z != x) = true := by simpa using hz1
              have hz2' : (z != y) = true := by simpa using hz2
              go_wp2_with fail
              refine (sendq w8 _ _ _ _ _ x z ad bs kc HNw8.out HBw8.out.size hn (HL.out w8 HBw8.out)).mono ?_
              rw [(send_in HX.out HZ.out hlen (pr_other hz2) (by simp)).1, (send_in HX.out HZ.out hlen (pr_other hz2) (by simp)).2]
              rintro e w9 ⟨rfl, hn9, hb9⟩
              have HNw9 := Lib.hid hn9
              have HBw9 := Lib.hid (HBw8.out.trans hb9)
              clear hn9 hb9
              have HK := Lib.hid (show ([] ++ [(⟨x, x, bs⟩ : Q)] ++ [(⟨x, z, bs⟩ : Q)]).length = 2 from rfl)
              go_wp2_with fail
              refine (lenq w9 _ _ _ _ _ HNw9.out).mono ?_; rintro e wl ⟨rfl, rfl⟩
              rw [HK.out]
              go_wp2_with fail
              refine (healq w9 _ _ _ _ _ HNw9.out HBw9.out.size).mono ?_; rintro e wh ⟨rfl, hnh, hbh⟩
              have HNh := Lib.hid hnh
              have HBh := Lib.hid (HBw9.out.trans hbh)
              clear hnh hbh
              go_wp2_with fail
              refine (sendq wh _ _ _ _ _ y x ad bs kc HNh.out HBh.out.size hn (HL.out wh HBh.out)).mono ?_
              rw [(send_in HY.out HX.out hlen (by simp) (by rw [HK.out]; omega)).1, (send_in HY.out HX.out hlen (by simp) (by rw [HK.out]; omega)).2]
              rintro e ws ⟨rfl, hns, hbs⟩
              have HNs := Lib.hid hns
              have HBs := Lib.hid (HBh.out.trans hbs)
              clear hns hbs
              go_wp2_with fail
              refine (lenq ws _ _ _ _ _ HNs.out).mono ?_; rintro e wl ⟨rfl, rfl⟩
              rw [List.length_append, HK.out]
              go_wp2_with fail
              go_ret
              exact ⟨rfl, HBs.out⟩

theorem lawWalk {H : Type} (enc : TypeId × Value → H) : LawWalk enc Try.prog 3 Try.f3 (fun _ => True) := by
  intro W base args ds p hval hA hsz _
  rw [Try.params3] at hA hval
  obtain ⟨v0, vs0, d0, ds0, p0, q0, hargs, rfl, rfl, h0, r0⟩ := trodAll_cons hA
  obtain ⟨v1, vs1, d1, ds1, p1, q1, rfl, rfl, rfl, h1, r1⟩ := trodAll_cons r0
  obtain ⟨v2, vs2, d2, ds2, p2, q2, rfl, rfl, rfl, h2, r2⟩ := trodAll_cons r1
  obtain ⟨v3, vs3, d3, ds3, p3, q3, rfl, rfl, rfl, h3, r3⟩ := trodAll_cons r2
  obtain ⟨v4, vs4, d4, ds4, p4, q4, rfl, rfl, rfl, h4, r4⟩ := trodAll_cons r3
  obtain ⟨v5, vs5, d5, ds5, p5, q5, rfl, rfl, rfl, h5, r5⟩ := trodAll_cons r4
  obtain ⟨rfl, rfl, rfl⟩ := trodAll_nil r5
  obtain rfl : args = #[v0, v1, v2, v3, v4, v5] := by cases args; simp_all
  obtain ⟨n0, rfl, rfl, rfl, w0⟩ := open_int Try.underlying3 (hval 0 3 v0 rfl rfl) h0
  obtain ⟨a, l, cap, es, sp, rfl, hlc, hcm, hn, hat, hd, hel, hsp, hgood⟩ := open_slice_gen 4 ocells (fun o _ => GoodO W o) Try.underlying22 (by kernel_rfl) (by omega) (fun n cs y _ h => elem_op n cs y h) (hval 1 22 v1 rfl rfl) h1
  obtain ⟨a0, rfl, rfl, rfl, w2⟩ := open_int Try.underlying3 (hval 2 3 v2 rfl rfl) h2
  obtain ⟨b0, rfl, rfl, rfl, w3⟩ := open_int Try.underlying3 (hval 3 3 v3 rfl rfl) h3
  obtain ⟨c0, rfl, rfl, rfl, w4⟩ := open_int Try.underlying3 (hval 4 3 v4 rfl rfl) h4
  obtain ⟨ad, bz, kc, rfl, hb1, hb2, hb3, hb4, hwf, _⟩ := open_slice_int Try.underlying23 Try.underlying5 (by kernel_rfl) (hval 5 23 v5 rfl rfl) h5
  obtain ⟨bs, rfl, hbs⟩ := nat_list bz (byte_wf hwf)
  rw [bcells_of] at hb4
  simp only [List.length_map] at *
  exact cuts_ok W n0 a0 b0 c0 a l cap ad bs kc (by unfold maxLen at hcm; omega) hat (fun k hk => hgood k hk (by omega)) hb3 hb4

theorem own : ownKnob Try.prog.godebug = none := by kernel_rfl
theorem laidOut : laidOutB Try.prog = true := by kernel_rfl

set_option maxRecDepth 100000 in
theorem lifted (os : Os) (started : os.Started) (H : Type) (enc : TypeId × Value → H) :
    ReturnsInHanded {} Try.checked os 3 .any (Rows.netCutsSpec.pre6 enc Try.prog Try.f3 Rows.netCutsRow.domain false) (Rows.netCutsSpec.post enc Try.prog Try.f3 false true false false) := by
  refine returnsInHanded_of_change_sized (C := Try.checked) own started (by kernel_rfl) Try.func3
    (ChangeSpec.witness6 (enc := enc) (C := Try.checked) false ⟨#[], #[.int .i64 0, .slice none 0 0, .int .i64 0, .int .i64 0, .int .i64 0, .slice none 0 0], []⟩ 8 (by kernel_rfl) (by kernel_rfl) (by kernel_rfl) (by kernel_rfl)) ?_
  intro W base args ds gs before hval hW hcnd hsz _
  exact law_post (C := Try.checked) laidOut (fun ds h => by match ds, h with | [_, _, _, _, _, _], _ => rfl) 4 rfl Try.underlying4 rfl (by kernel_rfl) hval hW hsz trivial (lawWalk enc)

theorem proved : Rows.NetCutsSaid :=
  OpenClaim.holds_of_wide 3 Try.f3 rfl rfl rfl rfl rfl rfl rfl ⟨rfl, rfl, rfl, rfl, rfl⟩ rfl rfl rfl rfl rfl (by kernel_rfl) Try.func3 (by kernel_rfl)
    (of_decide_eq_true (by kernel_rfl)) (by unfold Func.isWrapper; first | (rw [if_pos (by decide +kernel)]; kernel_rfl) | (rw [if_neg (by decide +kernel)]; exact ⟨rfl, rfl⟩))
    (fun os started H enc _ => lifted os started H enc)
#print axioms proved
end Go.Proofs.Ytnnfagdhigodbaa.netCuts
