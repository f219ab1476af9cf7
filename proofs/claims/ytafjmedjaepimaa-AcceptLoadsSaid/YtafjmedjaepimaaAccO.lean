/-
  Votes that come in: rows of them, compared and copied (CopyVotes).
-/
import Derived.Test.YtafjmedjaepimaaAccQ
import Derived.Test.YtafjmedjaepimaaAccM
import Derived.Test.YtafjmedjaepimaaKit2
import Derived.Deep.CutBlock
import Derived.Deep.RegionHeld3
namespace Go.Proofs.Ytafjmedjaepimaa.acco
open Go.ChangeShapes Go.WideShapes Go.ChangeAt Go.RowKit Go.Joins
open Go.Proofs.Ytafjmedjaepimaa.kit Go.Proofs.Ytafjmedjaepimaa.mapkit Go.Proofs.Ytafjmedjaepimaa.byt Go.Proofs.Ytafjmedjaepimaa.own Go.Proofs.Ytafjmedjaepimaa.accd Go.Proofs.Ytafjmedjaepimaa.acca Go.Proofs.Ytafjmedjaepimaa.accb Go.Proofs.Ytafjmedjaepimaa.acck Go.Proofs.Ytafjmedjaepimaa.acce Go.Proofs.Ytafjmedjaepimaa.accf Go.Proofs.Ytafjmedjaepimaa.accg Go.Proofs.Ytafjmedjaepimaa.acch Go.Proofs.Ytafjmedjaepimaa.acci Go.Proofs.Ytafjmedjaepimaa.accj Go.Proofs.Ytafjmedjaepimaa.accr Go.Proofs.Ytafjmedjaepimaa.accl Go.Proofs.Ytafjmedjaepimaa.acct Go.Proofs.Ytafjmedjaepimaa.accu Go.Proofs.Ytafjmedjaepimaa.accv Go.Proofs.Ytafjmedjaepimaa.accw Go.Proofs.Ytafjmedjaepimaa.accx Go.Proofs.Ytafjmedjaepimaa.accy Go.Proofs.Ytafjmedjaepimaa.accq Go.Proofs.Ytafjmedjaepimaa.accm
set_option linter.unusedVariables false
set_option linter.unusedSimpArgs false
set_option maxHeartbeats 4000000
set_option maxRecDepth 100000

/-- A vote that came in. -/
structure GoodV (w : World) (v : Vt) : Prop where
  rd : Rd w v
  len : v.l.length ≤ 140737488351232
  slot : -9223372036854775808 ≤ v.s ∧ v.s ≤ 9223372036854775807
theorem GoodV.below {w w' : World} {v : Vt} (h : GoodV w v) (hb : Below w.heap.size w w') : GoodV w' v := ⟨h.rd.below hb, h.len, h.slot⟩
/-- A row of votes, wherever it lies. -/
structure RowC (w : World) (a : Option Addr) (xs : List Vt) : Prop where
  row : RowsAt w a 4 (xs.map Vt.cells)
  good : ∀ x ∈ xs, GoodV w x
  len : xs.length ≤ 2932031007402
theorem RowC.below {w w' : World} {a : Option Addr} {xs : List Vt} (h : RowC w a xs) (hb : Below w.heap.size w w') : RowC w' a xs := ⟨h.row.below hb, fun x hx => (h.good x hx).below hb, h.len⟩
theorem RowC.cells {w : World} {a : Option Addr} {xs : List Vt} (h : RowC w a xs) (k : Nat) (hk : k < xs.length) :
    ∃ g off, a = some ⟨g, off, none⟩ ∧ g < w.heap.size ∧ w.cell? ⟨g, off + k * 4, none⟩ = some (.int .i64 xs[k].s) ∧ w.cell? ⟨g, off + k * 4 + 1, none⟩ = some (.int .i64 xs[k].r) ∧ w.cell? ⟨g, off + k * 4 + 2, none⟩ = some (.int .i64 xs[k].n) ∧ w.cell? ⟨g, off + k * 4 + 3, none⟩ = some (.slice xs[k].a xs[k].l.length xs[k].c) := by
  rcases h.row with h | ⟨b, off, rfl, hz, h3⟩
  · have : xs = [] := by simpa using h
    subst this; simp at hk
  · have hi : k < (xs.map Vt.cells).length := by simpa using hk
    have e0 := h3 k hi 0 (by omega)
    have e1 := h3 k hi 1 (by omega)
    have e2 := h3 k hi 2 (by omega)
    have e3 := h3 k hi 3 (by omega)
    simp only [List.getElem_map, Nat.add_zero] at e0 e1 e2 e3
    exact ⟨b, off, rfl, hz, e0.trans rfl, e1.trans rfl, e2.trans rfl, e3.trans rfl⟩

theorem same_c (w : World) (u : Value) (a' : Option Addr) (c' : Nat) (ps rs : List Vt) (hu : RowV w u ps) (hv : RowC w a' rs) (he : ps.map lv = rs.map lv) :
    Calls Try.prog 43 #[u, .slice a' rs.length c', .func (.func 17) #[] #[]] w fun e w' => e = .returned (.bool true) ∧ Below w.heap.size w w' := by
  obtain ⟨a, c, rfl⟩ := hu.shape
  have hlen : rs.length = ps.length := by have h := congrArg List.length he; rw [List.length_map, List.length_map] at h; exact h.symm
  have hrl := hv.len
  have HU := Lib.hid (fun (wr : World) (hb : Below w.heap.size w wr) k hk => (hu.below hb).cells (i := k) hk)
  have HV := Lib.hid (fun (wr : World) (hb : Below w.heap.size w wr) k hk => (hv.below hb).cells k hk)
  have HS : Hid (∀ (wr : World), Below w.heap.size w wr → ∀ k (hk : k < ps.length) (hk' : k < rs.length), Calls Try.prog 17 #[.agg #[.int .i64 ps[k].s, .int .i64 ps[k].r, .int .i64 ps[k].n, .slice ps[k].a ps[k].l.length ps[k].c], .agg #[.int .i64 rs[k].s, .int .i64 rs[k].r, .int .i64 rs[k].n, .slice rs[k].a rs[k].l.length rs[k].c]] wr fun e w' => e = .returned (.bool true) ∧ Below wr.heap.size wr w') := by
    intro wr hb k hk hk'
    have h := samev_any wr ps[k] rs[k] ((hu.below hb).rd _ (List.getElem_mem hk)) ((hv.below hb).good _ (List.getElem_mem hk')).rd
    have e : lv ps[k] = lv rs[k] := by
      have e1 : (ps.map lv)[k]? = (rs.map lv)[k]? := by rw [he]
      simpa [hk, hk'] using e1
    rwa [(sameV_iff _ _).2 e] at h
  clear hu hv he
  rw [hlen]
  have hlen' := Lib.hid hlen
  clear hlen
  go_enter Try.func43, Try.ntmps43
  go_wp2_with fail
  go_loopw [7] (fun i wr => ∃ k : Nat, k ≤ ps.length ∧ i = .int .i64 k ∧ Hid (Below w.heap.size w wr)) (fun i _ => ps.length - (RowKit.intOf i).toNat)
  case atStart => exact ⟨0, Nat.zero_le _, rfl, Below.refl _ _⟩
  case round =>
    obtain ⟨k, hk, rfl, hB⟩ := hrel
    by_cases hlt : k < ps.length
    · have hlt' : k < rs.length := by rw [hlen'.out]; exact hlt
      have hBd := below_step hB.out (below_drewN (Below.refl _ wr) 1)
      obtain ⟨g, d, e, hgz, hcap, q0, q1, q2, q3⟩ := HU.out wr hB.out k hlt
      obtain ⟨g', off, rfl, hgz', p0, p1, p2, p3⟩ := HV.out wr hB.out k hlt'
      simp only [Value.slice.injEq, true_and] at e
      obtain ⟨rfl, rfl⟩ := e
      have hcap2 : ps.length ≤ 9223372036854775807 := by unfold maxLen at hcap; omega
      clear hcap
      have HC := Lib.hid (HS.out _ hBd k hlt hlt')
      have HBd := Lib.hid hBd
      obtain ⟨r, hr⟩ : ∃ r, r = rs[k] := ⟨_, rfl⟩
      obtain ⟨p, hp⟩ : ∃ p, p = ps[k] := ⟨_, rfl⟩
      rw [← hr] at p0 p1 p2 p3 HC
      rw [← hp] at q0 q1 q2 q3 HC
      clear hBd hr hp hlt' hrl
      go_wp2_with fail
      go_still_tail 9, (by kernel_rfl)
      change wpList _ _ _ _ _ wr.drew
      go_wp2_with fail
      refine HC.out.mono ?_; rintro e w4 ⟨rfl, hb4⟩
      have HB4 := Lib.hid (below_step HBd.out hb4)
      clear hb4
      go_wp2_with fail
      go_roundw
      case rel => exact ⟨k + 1, by omega, by go_num, HB4⟩
      case measure => simp [RowKit.intOf]; omega
    · obtain rfl : k = ps.length := by omega
      clear hrl
      go_wp2_with fail
      go_ret
      exact ⟨rfl, hB.out⟩
theorem votes_eqc (w : World) (u : Value) (a' : Option Addr) (c' : Nat) (ps rs : List Vt) (hu : RowV w u ps) (hv : RowC w a' rs) (he : ps.map lv = rs.map lv) :
    Calls Try.prog 22 #[u, .slice a' rs.length c'] w fun e w' => e = .returned (.bool true) ∧ Below w.heap.size w w' := by
  have HS := Lib.hid (same_c w u a' c' ps rs hu hv he)
  obtain ⟨a, c, rfl⟩ := hu.shape
  clear hu hv he
  go_enter Try.func22, Try.ntmps22
  go_wp2_with fail
  refine HS.out.mono ?_; rintro e w1 ⟨rfl, hb1⟩
  go_wp2_with fail
  go_ret
  exact ⟨rfl, hb1⟩

/-- The list that CopyVotes makes. -/
theorem copyv_ok (w : World) (a : Option Addr) (c : Nat) (vs : List Vt) (h : RowC w a vs) :
    Calls Try.prog 26 #[.slice a vs.length c] w fun e w' => ∃ v, e = .returned v ∧ accc.Told w w' v (vs.map lv) ∧ Below w.heap.size w w' := by
  obtain ⟨j0, hj, hy0, hy1, hy2⟩ := info_parts accc.infoVote
  obtain ⟨i0, hi, hz0, hz1, hz2⟩ := info_parts infoByte
  have hlen := h.len
  have HH := Lib.hid (fun (wr : World) (hb : Below w.heap.size w wr) => h.below hb)
  clear h
  go_enter Try.func26, Try.ntmps26
  go_wp2_with fail
  go_loopw [3, 4] (fun l i wr => ∃ k : Nat, k ≤ vs.length ∧ i = .int .i64 k ∧ Hid (accc.Coll w wr vs k l)) (fun _ i _ => vs.length - (RowKit.intOf i).toNat)
  case atStart => exact ⟨0, Nat.zero_le _, rfl, ⟨⟨none, 0, [], rfl, rfl, rfl, World.ownsRow_nil _ _ _ _, by simp⟩, Below.refl _ _⟩⟩
  case round =>
    obtain ⟨k, hk, rfl, hC⟩ := hrel
    by_cases hlt : k < vs.length
    · obtain ⟨⟨al, cl, xs, rfl, hxl, hxs, hr, hbd⟩, hB⟩ := hC.out
      have hRC := HH.out wr hB
      obtain ⟨g, off, rfl, hgz, x0, x1, x2, x3⟩ := hRC.cells k hlt
      have hgood := hRC.good _ (List.getElem_mem hlt)
      have hq : (vs.map lv)[k]? = some (lv vs[k]) := by simp [hlt]
      obtain ⟨x, hx⟩ : ∃ x, x = vs[k] := ⟨_, rfl⟩
      rw [← hx] at x0 x1 x2 x3 hgood hq
      obtain ⟨w5, hw5⟩ : ∃ w5, w5 = wr.alloc (.cells #[.int .i64 x.s, .int .i64 x.r, .int .i64 x.n, .slice x.a x.l.length x.c] 38) := ⟨_, rfl⟩
      have hn5 : w5.heap[wr.heap.size]? = some (.cells #[.int .i64 x.s, .int .i64 x.r, .int .i64 x.n, .slice x.a x.l.length x.c] 38 (0, 0)) := by rw [hw5]; exact hp_alloc_new _ _
      have hb5 : Below wr.heap.size wr w5 := by rw [hw5]; exact below_new1 _ _
      obtain ⟨nb, hnb⟩ : ∃ nb, nb = wr.heap.size := ⟨_, rfl⟩
      rw [← hnb] at hn5
      obtain ⟨y0, y1, y2, y3, yz⟩ := blk4 hn5
      obtain ⟨fy0, fy1, fy2, fy3⟩ := blk4f hn5
      have HB5 := Lib.hid hb5
      have HN5 := Lib.hid hn5
      have HW5 := Lib.hid hw5
      have HNB := Lib.hid hnb
      have HQ := Lib.hid hq
      have HXS := Lib.hid hxs
      have HR := Lib.hid hr
      have HBD := Lib.hid hbd
      have HB := Lib.hid hB
      have HNIL := Lib.hid hgood.rd.nil
      have HLIE := Lib.hid (hgood.rd.lie.below hb5)
      have hxl2 := hgood.len
      have hsz := hB.size
      clear hRC hgood hq hx hw5 hn5 hb5 hnb hxs hr hbd hB hC
      go_upto_region 6 with fail
      rw [← HW5.out, ← HNB.out]
      clear x0 x1 x2 x3
      go_wp2_with (at_builtin; refine wpl_append rfl _ _ 29 rfl w5.heap.size 5 i0 (.int .u8 0) 1 1 Try.underlying29 hi hz0 hz1 hz2 rfl (by decide) _ 0 [] rfl (World.ownsRow_nil _ _ _ _) x.a x.l.length x.c (bcells x.l) rfl HNIL.out (by rw [bcells_len]; simp) HLIE.out (bcells_one _) (by unfold maxLen; omega) (by omega) (Nat.le_refl _) ?_)
      intro v6 w6 hown6 hgr6
      try simp only [Nat.zero_add, List.nil_append] at hown6
      obtain ⟨a6, c6, rfl⟩ := own_shape hown6
      have hb6 : Below w5.heap.size w5 w6 := ⟨hgr6.os, hgr6.tape, hgr6.output, hgr6.size, fun j hj => hgr6.block j hj (by simp [Value.ownBlock])⟩
      have hn6 := hp_step HN5.out hb6
      have hnbl : nb < w5.heap.size := (kit.blk HN5.out).2.2
      have hnbw : w.heap.size ≤ nb := by rw [HNB.out]; exact hsz
      obtain ⟨u0, u1, u2, u3, uz⟩ := blk4 hn6
      obtain ⟨fu0, fu1, fu2, fu3⟩ := blk4f hn6
      obtain ⟨w7, hw7⟩ : ∃ w7, w7 = w6.setCell ⟨nb, 3, none⟩ (.slice a6 x.l.length c6) := ⟨_, rfl⟩
      have hb56 := below_step HB5.out hb6
      have hn7 : w7.heap[nb]? = some (.cells #[.int .i64 x.s, .int .i64 x.r, .int .i64 x.n, .slice a6 x.l.length c6] 38 (0, 0)) := by rw [hw7]; exact hp_set hn6 3 _
      have hb7 : Below wr.heap.size wr w7 := by rw [hw7]; exact hb56.setCell (p := ⟨nb, 3, none⟩) (by rw [← HNB.out]; exact Nat.le_refl _) _
      have hr7 := own_below HR.out hb7
      have hbd7 : ∀ y ∈ xs, accd.Body w7 w.heap.size y := fun y hy => own_below (HBD.out y hy) hb7
      have hown7 : w7.ownsRow w5.heap.size 5 1 (.slice a6 x.l.length c6) x.l.length (bcells x.l) := by
        rw [hw7]
        exact own_kept hown6 (fun g hg => hp_set_ne (by have := (own_from hown6 g hg).1; show g ≠ nb; omega))
      have hbx7 : accd.Body w7 w.heap.size ⟨x.s, x.r, x.n, x.l, a6, c6⟩ := own_mono hown7 (by have := HB5.out.size; omega)
      have HR7 := Lib.hid hr7
      have HBD7 := Lib.hid hbd7
      have HBX7 := Lib.hid hbx7
      have HB7 := Lib.hid (below_step HB.out hb7)
      have HW7 := Lib.hid hw7
      have hs7 : w.heap.size ≤ w7.heap.size := HB7.out.size
      clear y0 y1 y2 y3 yz fy0 fy1 fy2 fy3
      obtain ⟨y0, y1, y2, y3, yz⟩ := blk4 hn7
      clear hown6 hgr6 hb6 hn6 hw7 hb56 hn7 hb7 hr7 hbd7 hown7 hbx7
      go_upto_region 7 with fail
      rw [← HW7.out]
      clear u0 u1 u2 u3 uz fu0 fu1 fu2 fu3 HW7
      go_wp2_with (at_builtin; refine wpl_append rfl (.tmp 20) (.tmp 22) 26 rfl w.heap.size 38 j0 _ 4 48 Try.underlying26 hj hy0 hy1 hy2 rfl (by decide) _ k (vcells xs) rfl (HR7.out.alloc _) (some ⟨w7.heap.size, 0, none⟩) 1 1 [.int .i64 x.s, .int .i64 x.r, .int .i64 x.n, .slice a6 x.l.length c6] rfl (by simp) rfl (accc.lie_new4 _ _ _ _ _ _) (by simp [Value.oneCell']) (by unfold maxLen; omega) (by omega) (by rw [size_new]; omega) ?_; intro v8 w8 hown hgr; have HC8 := Lib.hid (accc.Coll.step (x := ⟨x.s, x.r, x.n, x.l, a6, c6⟩) HB7.out hxl HXS.out HR7.out HBD7.out HBX7.out HQ.out hgr hown); clear hown hgr)
      go_wp2_with fail
      go_roundw
      case rel => exact ⟨k + 1, by omega, by go_num, HC8⟩
      case measure => simp [RowKit.intOf]; omega
    · obtain rfl : k = vs.length := by omega
      obtain ⟨⟨al, cl, xs, rfl, hxl, hxs, hr, hbd⟩, hB⟩ := hC.out
      rw [List.take_of_length_le (by simp)] at hxs
      rw [← hxl] at hr
      have HT := Lib.hid (show accc.Told w wr (.slice al xs.length cl) (vs.map lv) from ⟨al, cl, xs, rfl, hxs, hr, hbd⟩)
      have HBW := Lib.hid hB
      rw [hxl] at HT
      clear hxs hr hbd hB hC
      go_wp2_with fail
      go_ret
      exact ⟨_, rfl, HT.out, HBW.out⟩

/-- What the document's Load answers. -/
def RLoadR (w : World) (r n first : Int) (vs : List Vt) (e : Ending) (w' : World) : Prop :=
  Below w.heap.size w w' ∧ ((okL r n first (vs.map lv) ∧ ∃ br a' c', e = .returned (.pointer (some ⟨br, 0, none⟩)) ∧ w.heap.size ≤ br ∧ w'.heap[br]? = some (.cells #[.int .i64 r, .int .i64 n, .int .i64 first, .slice a' vs.length c'] 49 (0, 0)) ∧ w'.ownsRow w.heap.size 38 4 (.slice a' vs.length c') vs.length (vcells vs)) ∨ (¬ okL r n first (vs.map lv) ∧ e = .returned (.pointer none)))

theorem rload_no (w : World) (r n first : Int) (v : Value) (vs : List Vt) (h : ¬ okH r n first) :
    Calls Try.prog 28 #[.agg #[.int .i64 r, .int .i64 n], .int .i64 first, v] w (RLoadR w r n first vs) := by
  have HNO := Lib.hid (show ¬ okL r n first (vs.map lv) from fun hh => h hh.1)
  obtain ⟨w1, hw1⟩ : ∃ w1, w1 = w.alloc (.cells #[.int .i64 r, .int .i64 n] 28) := ⟨_, rfl⟩
  have HB1 := Lib.hid (show Below w.heap.size w w1 by rw [hw1]; exact below_new1 _ _)
  have hn1 : w1.heap[w.heap.size]? = some (.cells #[.int .i64 r, .int .i64 n] 28 (0, 0)) := by rw [hw1]; exact hp_alloc_new _ _
  obtain ⟨q0, q1, -, -, qz⟩ := blk2 hn1
  have HW := Lib.hid hw1
  clear hw1 hn1
  by_cases c1 : first < 1
  · have t1 : decide (first < 1) = true := decide_eq_true c1
    clear h
    go_enter Try.func28, Try.ntmps28
    go_wp2_with fail
    rw [← HW.out]
    go_ret
    exact ⟨HB1.out, .inr ⟨HNO.out, rfl⟩⟩
  · by_cases c2 : 1099511627776 < first
    · have t1 : decide (first < 1) = false := decide_eq_false c1
      have t2 : decide (1099511627776 < first) = true := decide_eq_true c2
      clear h
      go_enter Try.func28, Try.ntmps28
      go_wp2_with fail
      rw [← HW.out]
      go_ret
      exact ⟨HB1.out, .inr ⟨HNO.out, rfl⟩⟩
    · have t1 : decide (first < 1) = false := decide_eq_false c1
      have t2 : decide (1099511627776 < first) = false := decide_eq_false c2
      have hz : (!(r == 0 && n == 0)) = true := by
        cases hh : (r == 0 && n == 0) with
        | false => rfl
        | true =>
          simp at hh
          exact absurd ⟨by omega, by omega, .inl hh⟩ h
      have hre : realB r n = false := by
        cases hh : realB r n with
        | false => rfl
        | true => exact absurd ⟨by omega, by omega, .inr hh⟩ h
      have hq := fun w => neBallotZ w r n
      rw [hz] at hq
      have HRE := Lib.hid (turn_any r n w1)
      rw [hre] at HRE
      clear h hz hre
      go_enter Try.func28, Try.ntmps28
      go_wp2_with fail
      rw [← HW.out]
      refine HRE.out.mono ?_; rintro e w2 ⟨rfl, hb2⟩
      have HB2 := Lib.hid (below_step HB1.out hb2)
      clear hb2 HRE
      go_wp2_with fail
      go_ret
      exact ⟨HB2.out, .inr ⟨HNO.out, rfl⟩⟩

theorem rload_yes (w : World) (r n first : Int) (a : Option Addr) (c : Nat) (vs : List Vt) (hrow : RowV w (.slice a vs.length c) vs) (hvl : vs.length ≤ 2932031007402) (h : okH r n first) (hsl : ∀ v ∈ vs, -9223372036854775808 ≤ v.s ∧ v.s ≤ 9223372036854775807) :
    Calls Try.prog 28 #[.agg #[.int .i64 r, .int .i64 n], .int .i64 first, .slice a vs.length c] w (RLoadR w r n first vs) := by
  obtain ⟨hf1, hf2, hrn⟩ := h
  have HH := Lib.hid (show okH r n first from ⟨hf1, hf2, hrn⟩)
  obtain ⟨w1, hw1⟩ : ∃ w1, w1 = w.alloc (.cells #[.int .i64 r, .int .i64 n] 28) := ⟨_, rfl⟩
  have HB1 := Lib.hid (show Below w.heap.size w w1 by rw [hw1]; exact below_new1 _ _)
  have hn1 : w1.heap[w.heap.size]? = some (.cells #[.int .i64 r, .int .i64 n] 28 (0, 0)) := by rw [hw1]; exact hp_alloc_new _ _
  have HN1 := Lib.hid hn1
  obtain ⟨q0, q1, -, -, qz⟩ := blk2 hn1
  have HW := Lib.hid hw1
  have t1 : decide (first < 1) = false := decide_eq_false (by omega)
  have t2 : decide (1099511627776 < first) = false := decide_eq_false (by omega)
  have HRW := Lib.hid (fun (wx : World) (hb : Below w.heap.size w wx) => hrow.below hb)
  have HSL := Lib.hid hsl
  have hfm : IntKind.i64.wrap (first - 1) = first - 1 := IntWalk.i64_in _ (by omega)
  clear hw1 hn1 hrow hsl
  go_enter Try.func28, Try.ntmps28
  go_upto_region 1 with fail
  rw [← HW.out]
  go_cut [25] from 10 to 25 (fun t wx => t = .bool false ∧ Hid (Below w1.heap.size w1 wx))
  case first =>
    have hq := fun w => neBallotZ w r n
    by_cases hz : (r == 0 && n == 0) = true
    · rw [hz] at hq
      simp only [Bool.not_true] at hq
      clear hz hrn
      go_wp2_with fail
      go_meet
      case rel => exact ⟨rfl, (Below.refl _ _ : Below w1.heap.size w1 w1)⟩
    · have hz' : (r == 0 && n == 0) = false := by simpa using hz
      have hre : realB r n = true := by
        rcases hrn with ⟨h1, h2⟩ | h
        · exact absurd (by simp [h1, h2]) hz
        · exact h
      rw [hz'] at hq
      simp only [Bool.not_false] at hq
      have HRE := Lib.hid (turn_any r n w1)
      rw [hre] at HRE
      clear hz hz' hrn hre
      go_wp2_with fail
      refine HRE.out.mono ?_; rintro e w2 ⟨rfl, hb2⟩
      have HB2 := Lib.hid hb2
      clear hb2 HRE
      go_wp2_with fail
      go_meet
      case rel => exact ⟨rfl, HB2⟩
  case rest =>
    obtain ⟨rfl, HBC⟩ := hcut
    have hnc := hp_step HN1.out HBC.out
    have HB3 := Lib.hid (below_step HB1.out HBC.out)
    have HN3 := Lib.hid hnc
    clear hnc hrn
    go_wp2_with fail
    obtain ⟨pb, hpb⟩ : ∃ pb, pb = w.heap.size := ⟨_, rfl⟩
    rw [← hpb] at HN3 ⊢
    have HPB := Lib.hid hpb
    clear HN1 HBC HB1 hpb q0 q1 qz
    go_loopw [7, 8] (fun q i wr => ∃ k : Nat, k ≤ vs.length ∧ i = .int .i64 k ∧ q = .int .i64 (lst first (vs.map lv) k - 1) ∧ Hid (Below w.heap.size w wr) ∧ Hid (wr.heap[pb]? = some (.cells #[.int .i64 r, .int .i64 n] 28 (0, 0))) ∧ Hid (∀ j (hj : j < (vs.map lv).length), j < k → goodV r n first (lst first (vs.map lv) j) (vs.map lv)[j])) (fun _ i _ => vs.length - (intOf i).toNat)
    case atStart => exact ⟨0, Nat.zero_le _, rfl, rfl, HB3, HN3, fun j _ h => by omega⟩
    case round =>
      obtain ⟨k, hk, rfl, rfl, HB, HNR, HG⟩ := hrel
      by_cases hlt : k < vs.length
      · have hkm : k < (vs.map lv).length := by rw [List.length_map]; exact hlt
        have hsl := HSL.out _ (List.getElem_mem hlt)
        have hrd := (HRW.out wr HB.out).rd _ (List.getElem_mem hlt)
        obtain ⟨g, c9, e9, hgz, hcap9, x0, x1, x2, x3⟩ := (HRW.out wr HB.out).cells hlt
        simp only [Value.slice.injEq, true_and] at e9
        obtain ⟨rfl, rfl⟩ := e9
        have hcap2 : vs.length ≤ 9223372036854775807 := by unfold maxLen at hcap9; omega
        have hgm : (vs.map lv)[k] = lv vs[k] := by simp
        have hls := lst_succ first (vs.map lv) k hkm
        have hfr := lst_from k (by omega) (fun j hj h => HG.out j hj h)
        rw [hgm] at hls
        have hbad : ¬ goodV r n first (lst first (vs.map lv) k) (lv vs[k]) → ¬ okL r n first (vs.map lv) := by
          intro h hok
          have := hok.2 k hkm
          rw [hgm] at this
          exact h this
        have hgood : goodV r n first (lst first (vs.map lv) k) (lv vs[k]) → ∀ j (hj : j < (vs.map lv).length), j < k + 1 → goodV r n first (lst first (vs.map lv) j) (vs.map lv)[j] := by
          intro h j hj hjk
          by_cases e : j = k
          · subst e; rw [hgm]; exact h
          · exact HG.out j hj (by omega)
        obtain ⟨v, hv⟩ : ∃ v, v = vs[k] := ⟨_, rfl⟩
        rw [← hv] at hsl hrd x0 x1 x2 x3 hls hbad hgood
        obtain ⟨q, hq⟩ : ∃ q, q = lst first (vs.map lv) k := ⟨_, rfl⟩
        rw [← hq] at hbad hgood hfr
        rw [← hq]
        obtain ⟨m, hm⟩ : ∃ m, m = q - 1 := ⟨_, rfl⟩
        rw [← hm]
        have HM := Lib.hid hm
        have HSLV := Lib.hid hsl
        have HBAD := Lib.hid hbad
        have HGOOD := Lib.hid hgood
        have HLS := Lib.hid hls
        have HFR := Lib.hid hfr
        have HRD := Lib.hid hrd
        obtain ⟨w5, hw5⟩ : ∃ w5, w5 = wr.alloc (.cells #[.int .i64 v.s, .int .i64 v.r, .int .i64 v.n, .slice v.a v.l.length v.c] 38) := ⟨_, rfl⟩
        have hn5 : w5.heap[wr.heap.size]? = some (.cells #[.int .i64 v.s, .int .i64 v.r, .int .i64 v.n, .slice v.a v.l.length v.c] 38 (0, 0)) := by rw [hw5]; exact hp_alloc_new _ _
        have hb5 : Below wr.heap.size wr w5 := by rw [hw5]; exact below_new1 _ _
        have HB5 := Lib.hid (below_step HB.out hb5)
        have HN5 := Lib.hid hn5
        have HNP := Lib.hid (hp_step HNR.out hb5)
        have HW5 := Lib.hid hw5
        obtain ⟨nb, hnb⟩ : ∃ nb, nb = wr.heap.size := ⟨_, rfl⟩
        rw [← hnb] at HN5
        have HNB := Lib.hid hnb
        obtain ⟨y0, y1, y2, y3, yz⟩ := blk4 HN5.out
        obtain ⟨p0, p1, -, -, pz⟩ := blk2 HNP.out
        have hwr : IntKind.i64.wrap (first + 16) = first + 16 := IntWalk.i64_in _ (by omega)
        clear hsl hrd hcap9 hgm hls hfr hbad hgood hv hq hm hn5 hb5 hw5 hnb HNR HG
        go_upto_region 8 with fail
        rw [← HW5.out, ← HNB.out]
        clear HW5 HNB x0 x1 x2 x3
        by_cases c1 : v.s ≤ m
        · have t3 : decide (v.s ≤ m) = true := decide_eq_true c1
          go_wp2_with fail
          go_ret
          exact ⟨HB5.out, .inr ⟨HBAD.out (fun h => by have := h.1; have := HM.out; simp only [lv] at *; omega), rfl⟩⟩
        have t3 : decide (v.s ≤ m) = false := decide_eq_false c1
        by_cases c2 : first + 16 ≤ v.s
        · have t4 : decide (first + 16 ≤ v.s) = true := decide_eq_true c2
          go_wp2_with fail
          go_ret
          exact ⟨HB5.out, .inr ⟨HBAD.out (fun h => by have := h.2.1; simp only [lv] at this; omega), rfl⟩⟩
        have t4 : decide (first + 16 ≤ v.s) = false := decide_eq_false c2
        have HRE := Lib.hid (turn_any v.r v.n w5)
        by_cases c3 : realB v.r v.n = false
        · rw [c3] at HRE
          have HC3 := Lib.hid c3
          clear c3
          go_wp2_with fail
          refine HRE.out.mono ?_; rintro e w6 ⟨rfl, hb6⟩
          have HB6 := Lib.hid (below_step HB5.out hb6)
          clear hb6 HRE
          go_wp2_with fail
          go_ret
          exact ⟨HB6.out, .inr ⟨HBAD.out (fun h => by have := h.2.2.1; simp only [lv] at this; rw [HC3.out] at this; simp at this), rfl⟩⟩
        have c3' : realB v.r v.n = true := by simpa using c3
        rw [c3'] at HRE
        have HC3 := Lib.hid c3'
        clear c3 c3'
        go_wp2_with fail
        refine HRE.out.mono ?_; rintro e w6 ⟨rfl, hb6⟩
        have HB6 := Lib.hid (below_step HB5.out hb6)
        have HN6 := Lib.hid (hp_step HN5.out hb6)
        have HNP6 := Lib.hid (hp_step HNP.out hb6)
        clear hb6 HRE y0 y1 y2 y3 yz p0 p1 pz
        obtain ⟨y0, y1, y2, y3, yz⟩ := blk4 HN6.out
        obtain ⟨p0, p1, -, -, pz⟩ := blk2 HNP6.out
        have HLE := Lib.hid (rless_any r n v.r v.n w6)
        by_cases c4 : lessB r n v.r v.n = true
        · rw [c4] at HLE
          have HC4 := Lib.hid c4
          clear c4
          go_wp2_with fail
          refine HLE.out.mono ?_; rintro e w7 ⟨rfl, hb7⟩
          have HB7 := Lib.hid (below_step HB6.out hb7)
          clear hb7 HLE
          go_wp2_with fail
          go_ret
          exact ⟨HB7.out, .inr ⟨HBAD.out (fun h => by have := h.2.2.2.1; simp only [lv] at this; rw [HC4.out] at this; simp at this), rfl⟩⟩
        have c4' : lessB r n v.r v.n = false := by simpa using c4
        rw [c4'] at HLE
        have HC4 := Lib.hid c4'
        clear c4 c4'
        go_wp2_with fail
        refine HLE.out.mono ?_; rintro e w7 ⟨rfl, hb7⟩
        have HB7 := Lib.hid (below_step HB6.out hb7)
        have HN7 := Lib.hid (hp_step HN6.out hb7)
        have HNP7 := Lib.hid (hp_step HNP6.out hb7)
        clear hb7 HLE y0 y1 y2 y3 yz p0 p1 pz
        obtain ⟨y0, y1, y2, y3, yz⟩ := blk4 HN7.out
        have hvlen : v.l.length ≤ 140737488355328 := HRD.out.len
        by_cases c5 : 2048 < v.l.length
        · have t5 : decide ((2048 : Int) < (v.l.length : Int)) = true := decide_eq_true (by omega)
          have t5' : (2048 : Int) < (v.l.length : Int) := by omega
          go_wp2_with fail
          go_ret
          exact ⟨HB7.out, .inr ⟨HBAD.out (fun h => by have := h.2.2.2.2; simp only [lv] at this; omega), rfl⟩⟩
        have t5 : decide ((2048 : Int) < (v.l.length : Int)) = false := decide_eq_false (by omega)
        have t5' : ¬ (2048 : Int) < (v.l.length : Int) := by omega
        have hlen : v.l.length ≤ 2048 := by omega
        have HGD := Lib.hid (HGOOD.out ⟨(by have := HM.out; simp only [lv]; omega), (by simp only [lv]; omega), HC3.out, HC4.out, hlen⟩)
        have HNX : Hid (lst first (vs.map lv) (k + 1) - 1 = v.s) := by simp only [Hid]; rw [HLS.out]; simp only [lv]; omega
        clear c1 c2 c5 t3 t4
        go_wp2_with fail
        go_roundw
        case rel => exact ⟨k + 1, by omega, by go_num, by rw [HNX.out], HB7, HNP7, HGD⟩
        case measure => simp [intOf]; omega
      · obtain rfl : k = vs.length := by omega
        obtain ⟨j0, hj, hy0, hy1, hy2⟩ := info_parts accc.infoVote
        have HOK := Lib.hid (show okL r n first (vs.map lv) from ⟨HH.out, fun j hj => HG.out j hj (by rw [List.length_map] at hj; exact hj)⟩)
        have hbd : Below wr.heap.size wr wr.drew := below_drewN (Below.refl _ wr) 1
        have HRD := Lib.hid ((HRW.out wr HB.out).below hbd)
        obtain ⟨x0, x1, -, -, xz⟩ := blk2 (hp_step HNR.out hbd)
        have HBD := Lib.hid hbd
        have HBW := Lib.hid (below_step HB.out hbd)
        obtain ⟨⟨base9, a9, c9, e9, hr9⟩, -⟩ := HRD.out
        simp only [Value.slice.injEq, true_and] at e9
        obtain ⟨rfl, rfl⟩ := e9
        have HNIL := Lib.hid (row_nil hr9)
        have HLIE := Lib.hid (row_lie hr9)
        have hws : w.heap.size ≤ wr.drew.heap.size := HBW.out.size
        clear hbd hr9 HG HNR
        go_wp2_with fail
        go_region_held3 (fun w' => w'.cell? ⟨pb, 0, none⟩ = some (.int .i64 r) ∧ w'.cell? ⟨pb, 1, none⟩ = some (.int .i64 n)) (first | (exact ⟨x0, x1⟩) | (exact ⟨z0, z1⟩) | (exact ⟨cell_step z0 (below_new1 _ _), cell_step z1 (below_new1 _ _)⟩)) (first | (refine kit.step_append rfl _ _ 26 rfl w.heap.size 38 j0 _ 4 48 Try.underlying26 hj hy0 hy1 hy2 rfl (by decide) (.slice none 0 0) 0 [] rfl (World.ownsRow_nil _ _ _ _) a vs.length c (vcells vs) rfl HNIL.out (accc.vcells_len vs) HLIE.out (vcells_one vs) (by unfold maxLen; omega) (by omega) hws ?_; intro v6 w6 hown6 hgr6; simp only [Nat.zero_add, List.nil_append] at hown6; obtain ⟨a6, c6, rfl⟩ := own_shape hown6; have hb6 : Below wr.drew.heap.size wr.drew w6 := ⟨hgr6.os, hgr6.tape, hgr6.output, hgr6.size, fun j hj => hgr6.block j hj (by simp [Value.ownBlock])⟩; have z0 := cell_step x0 hb6; have z1 := cell_step x1 hb6; have HB6 := Lib.hid (below_step HBW.out hb6); have HO6 := Lib.hid hown6; clear hown6 hgr6 hb6))
        have hN := hp_alloc_new w6 (.cells #[.int .i64 r, .int .i64 n, .int .i64 first, .slice a6 vs.length c6] 49)
        have HN := Lib.hid hN
        have HO7 := Lib.hid (HO6.out.alloc (.cells #[.int .i64 r, .int .i64 n, .int .i64 first, .slice a6 vs.length c6] 49))
        have HB7 := Lib.hid (below_step HB6.out (below_new1 w6 (.cells #[.int .i64 r, .int .i64 n, .int .i64 first, .slice a6 vs.length c6] 49)))
        clear hN
        go_wp2_with fail
        go_ret
        exact ⟨HB7.out, .inl ⟨HOK.out, _, a6, c6, rfl, HB6.out.size, HN.out, HO7.out⟩⟩
end Go.Proofs.Ytafjmedjaepimaa.acco
