/-
  choose.Right: which promises are right.
-/
import Derived.Test.YtodoncmielfbeaaChD
import Derived.Test.YtodoncmielfbeaaChB
import Derived.Deep.CutBlock
import Derived.Deep.RegionHeld3
namespace Go.Proofs.Ytodoncmielfbeaa.chr
open Go.ChangeShapes Go.WideShapes Go.ChangeAt Go.RowKit
open Go.Proofs.Ytodoncmielfbeaa.kit Go.Proofs.Ytodoncmielfbeaa.mapkit Go.Proofs.Ytodoncmielfbeaa.byt Go.Proofs.Ytodoncmielfbeaa.own Go.Proofs.Ytodoncmielfbeaa.accd Go.Proofs.Ytodoncmielfbeaa.chd Go.Proofs.Ytodoncmielfbeaa.chb
open Go.Proofs.Ytodoncmielfbeaa.bal (knownB seenArr named seenArr_nil seenArr_get seen_once named_iff)
set_option linter.unusedVariables false
set_option linter.unusedSimpArgs false
set_option maxHeartbeats 1000000
set_option maxRecDepth 100000

theorem right_out (w : World) (nodes : Int) (v : Value) (hn : nodes < 1 ∨ 5 < nodes) : Calls Try.prog 13 #[.int .i64 nodes, v] w fun e w' => e = .returned (.bool false) ∧ Below w.heap.size w w' := by
  by_cases h1 : nodes < 1
  · go_enter Try.func13, Try.ntmps13
    go_wp2_with fail
    go_ret
    exact ⟨rfl, Below.refl _ _⟩
  · have h5 : 5 < nodes := by omega
    clear hn
    go_enter Try.func13, Try.ntmps13
    go_wp2_with fail
    go_ret
    exact ⟨rfl, Below.refl _ _⟩

theorem prOk_iff {nodes : Int} {p : chp.Pr} : chp.prOk nodes p = true ↔ (1 ≤ p.node ∧ p.node ≤ nodes) ∧ p.vs.length ≤ 16 ∧ chp.lastOk nodes 0 p.vs = true := by
  simp [chp.prOk, and_assoc]
theorem voteOk_vv (nodes q : Int) (v : Vt) : voteOk nodes q (vv v) = (decide (q < v.s) && decide (v.s ≤ 1099511627776) && (decide (1 ≤ v.r) && decide (1 ≤ v.n) && decide (v.n ≤ nodes))) := rfl
theorem voteOk_pos {nodes q : Int} {v : Vt} (h : voteOk nodes q (vv v) = true) : q < v.s ∧ v.s ≤ 1099511627776 := by
  rw [voteOk_vv] at h
  simp only [Bool.and_eq_true, decide_eq_true_eq] at h
  exact h.1
theorem voteOk_may {nodes q : Int} {v : Vt} (hn : 1 ≤ nodes ∧ nodes ≤ 5) (h1 : q < v.s) (h2 : v.s ≤ 1099511627776) : voteOk nodes q (vv v) = mayB v.r v.n nodes := by
  have hk : knownB nodes = true := by simp [knownB, hn]
  rw [voteOk_vv, mayB, hk, decide_eq_true h1, decide_eq_true h2]
  simp only [Bool.true_and]
theorem pv_take (l : List Pt) (k : Nat) (hk : k < l.length) : (l.take (k + 1)).map pv = (l.take k).map pv ++ [pv l[k]] := by
  rw [List.take_succ_eq_append_getElem hk, List.map_append]; rfl
theorem vv_take (l : List Vt) (k : Nat) (hk : k < l.length) : (l.take (k + 1)).map vv = (l.take k).map vv ++ [vv l[k]] := by
  rw [List.take_succ_eq_append_getElem hk, List.map_append]; rfl
theorem mem_named {nodes : Int} {l : List Pt} {x : Int} (h1 : 1 ≤ x) (h2 : x ≤ nodes) : named nodes (l.map Pt.node) x.toNat = true ↔ ∃ q ∈ l.map pv, q.node = x := by
  rw [named_iff]
  have e : ((x.toNat : Nat) : Int) = x := by omega
  rw [e]
  constructor
  · rintro ⟨_, _, h⟩
    obtain ⟨p, hp, rfl⟩ := List.mem_map.1 h
    exact ⟨pv p, List.mem_map_of_mem hp, rfl⟩
  · rintro ⟨q, hq, rfl⟩
    obtain ⟨p, hp, rfl⟩ := List.mem_map.1 hq
    exact ⟨by omega, h2, List.mem_map_of_mem hp⟩

theorem right_in (w : World) (nodes : Int) (a : Option Addr) (c : Nat) (l : List Pt) (h : RowP w a l) (hn1 : 1 ≤ nodes) (hn5 : nodes ≤ 5) :
    Calls Try.prog 13 #[.int .i64 nodes, .slice a l.length c] w fun e w' => e = .returned (.bool (rightB nodes (l.map pv))) ∧ Below w.heap.size w w' := by
  have hll := h.len
  have HH := Lib.hid (fun (wr : World) (hb : Below w.heap.size w wr) => h.below hb)
  clear h
  go_enter Try.func13, Try.ntmps13
  go_wp2_with fail
  go_loopw [19] (fun i wr => ∃ k : Nat, k ≤ l.length ∧ i = .int .i64 k ∧ Hid (wr.heap[w.heap.size]? = some (.cells (seenArr nodes ((l.take k).map Pt.node)) 89 (0, 0))) ∧ Hid (Below w.heap.size w wr) ∧ Hid (RightTo nodes ((l.take k).map pv)))
    (fun i _ => l.length - (intOf i).toNat)
  case atStart => exact ⟨0, Nat.zero_le _, rfl, by simp only [Hid]; rw [hp_alloc_new, List.take_zero, List.map_nil, seenArr_nil], (Below.refl _ _).alloc (Nat.le_refl _) _, rightTo_nil _⟩
  case round =>
    obtain ⟨k, hk, rfl, HS, HB, HG⟩ := hrel
    by_cases hlt : k < l.length
    · have hP := HH.out wr HB.out
      obtain ⟨g, off, rfl, hgz, x0, x1⟩ := hP.cells k hlt
      have hgp := fun (wx : World) (hb : Below w.heap.size w wx) => (HH.out wx hb).good _ (List.getElem_mem hlt)
      have hbad : ¬ RightTo nodes ((l.take (k + 1)).map pv) → rightB nodes (l.map pv) = false := by
        rw [List.map_take]; exact right_not
      have hsn := pv_take l k hlt
      have hsm : (l.take (k + 1)).map Pt.node = (l.take k).map Pt.node ++ [l[k].node] := by rw [List.take_succ_eq_append_getElem hlt, List.map_append]; rfl
      obtain ⟨p, hp⟩ : ∃ p, p = l[k] := ⟨_, rfl⟩
      rw [← hp] at x0 x1 hgp hsn hsm
      rw [hsn, rightTo_snoc] at hbad
      obtain ⟨pn, pvs, pa, pc⟩ := p
      dsimp only at x0 x1 hsm
      have HBAD := Lib.hid hbad
      have HSN := Lib.hid hsn
      have HSM := Lib.hid hsm
      have HGP := Lib.hid hgp
      obtain ⟨w5, hw5⟩ : ∃ w5, w5 = wr.alloc (.cells #[.int .i64 pn, .slice pa pvs.length pc] 36) := ⟨_, rfl⟩
      have hn5' : w5.heap[wr.heap.size]? = some (.cells #[.int .i64 pn, .slice pa pvs.length pc] 36 (0, 0)) := by rw [hw5]; exact hp_alloc_new _ _
      have hb5 : Below wr.heap.size wr w5 := by rw [hw5]; exact below_new1 _ _
      have HB5 := Lib.hid (below_step HB.out hb5)
      have hs5 := hp_step HS.out hb5
      have HS5 := Lib.hid hs5
      have HW5 := Lib.hid hw5
      obtain ⟨nb, hnb⟩ : ∃ nb, nb = wr.heap.size := ⟨_, rfl⟩
      rw [← hnb] at hn5'
      have HNB := Lib.hid hnb
      have hws : w.heap.size < nb := by have := (kit.blk HS.out).2.2; omega
      have HN5 := Lib.hid hn5'
      obtain ⟨y0, y1, fy0, fy1, yz⟩ := blk2 hn5'
      obtain ⟨hq, hf, hz⟩ := kit.blk hs5
      have HQ := Lib.hid hq
      have HF := Lib.hid hf
      have hpl : pvs.length ≤ 2932031007402 := (hgp wr HB.out).row.len
      clear hP hgp hbad hsn hsm hp hw5 hn5' hb5 hs5 hnb hq hf HS
      go_upto_region 7 with fail
      rw [← HW5.out, ← HNB.out]
      clear x0 x1 HW5
      by_cases c1 : pn < 1
      · have t1 : decide (pn < 1) = true := decide_eq_true c1
        go_wp2_with fail
        go_ret
        exact ⟨by rw [HBAD.out (fun h => by have := prOk_iff.1 h.2.1; simp only [pv, List.length_map] at this; omega)]; rfl, HB5.out⟩
      have t1 : decide (pn < 1) = false := decide_eq_false c1
      by_cases c2 : nodes < pn
      · have t2 : decide (nodes < pn) = true := decide_eq_true c2
        go_wp2_with fail
        go_ret
        exact ⟨by rw [HBAD.out (fun h => by have := prOk_iff.1 h.2.1; simp only [pv, List.length_map] at this; omega)]; rfl, HB5.out⟩
      have t2 : decide (nodes < pn) = false := decide_eq_false c2
      have hq := HQ.out pn.toNat
      have hfr := HF.out pn.toNat
      rw [seenArr_get _ _ _ (by omega)] at hq
      have hx0 : 0 ≤ pn ∧ pn < 6 := by omega
      cases hnm : named nodes ((l.take k).map Pt.node) pn.toNat with
      | true =>
        rw [hnm] at hq
        have HN := Lib.hid hnm
        clear hnm
        go_wp2_with fail
        go_ret
        exact ⟨by rw [HBAD.out (fun h => by obtain ⟨q, hq, e⟩ := (mem_named (by omega) (by omega)).1 HN.out; exact h.2.2 q hq e)]; rfl, HB5.out⟩
      | false =>
        rw [hnm] at hq
        have HN := Lib.hid hnm
        clear hnm
        by_cases c4 : 16 < pvs.length
        · have t4 : decide ((16 : Int) < (pvs.length : Int)) = true := decide_eq_true (by omega)
          have t4' : (16 : Int) < (pvs.length : Int) := by omega
          go_wp2_with fail
          go_ret
          exact ⟨by rw [HBAD.out (fun h => by have := prOk_iff.1 h.2.1; simp only [pv, List.length_map] at this; omega)]; rfl, HB5.out⟩
        have t4 : decide ((16 : Int) < (pvs.length : Int)) = false := decide_eq_false (by omega)
        have t4' : ¬ (16 : Int) < (pvs.length : Int) := by omega
        have hnn : ∀ q ∈ (l.take k).map pv, q.node ≠ pn := fun q hq e => by
          have := (mem_named (nodes := nodes) (l := l.take k) (x := pn) (by omega) (by omega)).2 ⟨q, hq, e⟩
          rw [HN.out] at this
          simp at this
        have HNN := Lib.hid hnn
        have hkn : knownB nodes = true := by simp [knownB]; omega
        have hse : seenArr nodes ((l.take k).map Pt.node ++ [pn]) = (seenArr nodes ((l.take k).map Pt.node)).setIfInBounds pn.toNat (.bool true) := (seen_once (n := nodes) rfl (by omega) (by omega) (by omega) HN.out).1
        obtain ⟨w6, hw6⟩ : ∃ w6, w6 = w5.setCell ⟨w.heap.size, pn.toNat, none⟩ (.bool true) := ⟨_, rfl⟩
        have hs6 : w6.heap[w.heap.size]? = some (.cells (seenArr nodes ((l.take (k + 1)).map Pt.node)) 89 (0, 0)) := by
          rw [hw6, HSM.out, hse]
          exact hp_set HS5.out _ _
        have hb6 : Below w.heap.size w w6 := by rw [hw6]; exact HB5.out.setCell (p := ⟨w.heap.size, pn.toNat, none⟩) (Nat.le_refl _) _
        have hn6 : w6.heap[nb]? = some (.cells #[.int .i64 pn, .slice pa pvs.length pc] 36 (0, 0)) := by
          rw [hw6]
          exact (hp_set_ne (a := ⟨w.heap.size, pn.toNat, none⟩) (by show nb ≠ w.heap.size; omega)).trans HN5.out
        have HS6 := Lib.hid hs6
        have HB6 := Lib.hid hb6
        have HW6 := Lib.hid hw6
        have HN6 := Lib.hid hn6
        clear hs6 hb6 hw6 hnn hkn hse hn6
        go_upto_region 10 with fail
        rw [← HW6.out]
        clear y0 y1 fy0 fy1 hq hfr
        obtain ⟨y0, y1, fy0, fy1, -⟩ := blk2 HN6.out
        go_upto_region 12 with fail
        go_loopw [8, 50] (fun q j wo => ∃ m : Nat, m ≤ pvs.length ∧ j = .int .i64 m ∧ q = .int .i64 (lastF 0 ((pvs.take m).map vv)) ∧ Hid (wo.heap[w.heap.size]? = some (.cells (seenArr nodes ((l.take (k + 1)).map Pt.node)) 89 (0, 0))) ∧ Hid (Below w.heap.size w wo) ∧ Hid (chp.lastOk nodes 0 ((pvs.take m).map vv) = true))
          (fun _ j _ => pvs.length - (intOf j).toNat)
        case atStart => exact ⟨0, Nat.zero_le _, rfl, rfl, HS6, HB6, rfl⟩
        case round =>
          obtain ⟨wo, rfl⟩ : ∃ wo : World, wo = wr := ⟨_, rfl⟩
          obtain ⟨m, hm, rfl, rfl, HSo, HBo, HLo⟩ := hrel
          by_cases hmt : m < pvs.length
          · have hR := (HGP.out wo HBo.out).row
            obtain ⟨g2, off2, rfl, hgz2, x0, x1, x2, x3⟩ := hR.cells m hmt
            have hvs := vv_take pvs m hmt
            have hbad2 : ¬ chp.lastOk nodes 0 ((pvs.take (m + 1)).map vv) = true → rightB nodes (l.map pv) = false := by
              intro hno
              refine HBAD.out (fun h => hno ?_)
              have h2 := (prOk_iff.1 h.2.1).2.2
              rw [List.map_take]
              exact lastOk_take _ h2
            rw [hvs, lastOk_snoc] at hbad2
            have hlf : lastF 0 ((pvs.take (m + 1)).map vv) = pvs[m].s := by rw [hvs, lastF_snoc]; rfl
            have hlo : voteOk nodes (lastF 0 ((pvs.take m).map vv)) (vv pvs[m]) = true → chp.lastOk nodes 0 ((pvs.take (m + 1)).map vv) = true := by
              intro h
              rw [hvs, lastOk_snoc, HLo.out, h]; rfl
            obtain ⟨v, hv⟩ : ∃ v, v = pvs[m] := ⟨_, rfl⟩
            rw [← hv] at x0 x1 x2 x3 hbad2 hlf hlo
            obtain ⟨q, hq⟩ : ∃ q, q = lastF 0 ((pvs.take m).map vv) := ⟨_, rfl⟩
            rw [← hq] at hbad2 hlo ⊢
            have HBAD2 : Hid (¬ voteOk nodes q (vv v) = true → rightB nodes (l.map pv) = false) := fun h => hbad2 (by rw [HLo.out]; simpa using h)
            have HLF := Lib.hid hlf
            have HLO := Lib.hid hlo
            obtain ⟨w7, hw7⟩ : ∃ w7, w7 = wo.alloc (.cells #[.int .i64 v.s, .int .i64 v.r, .int .i64 v.n, .slice v.a v.l.length v.c] 45) := ⟨_, rfl⟩
            have hn7 : w7.heap[wo.heap.size]? = some (.cells #[.int .i64 v.s, .int .i64 v.r, .int .i64 v.n, .slice v.a v.l.length v.c] 45 (0, 0)) := by rw [hw7]; exact hp_alloc_new _ _
            have hb7 : Below wo.heap.size wo w7 := by rw [hw7]; exact below_new1 _ _
            have HB7 := Lib.hid (below_step HBo.out hb7)
            have HS7 := Lib.hid (hp_step HSo.out hb7)
            have HW7 := Lib.hid hw7
            obtain ⟨mb, hmb⟩ : ∃ mb, mb = wo.heap.size := ⟨_, rfl⟩
            rw [← hmb] at hn7
            have HMB := Lib.hid hmb
            have HN7 := Lib.hid hn7
            obtain ⟨z0, z1, z2, z3, zz⟩ := blk4 hn7
            clear hR hvs hbad2 hlf hlo hv hq hw7 hn7 hb7 hmb y0 y1 yz fy0 fy1
            go_upto_region 14 with fail
            rw [← HW7.out, ← HMB.out]
            clear HW7 HMB x0 x1 x2 x3
            by_cases c5 : v.s ≤ q
            · have t5 : decide (v.s ≤ q) = true := decide_eq_true c5
              go_wp2_with fail
              go_ret
              exact ⟨by rw [HBAD2.out (fun h => by have := voteOk_pos h; omega)]; rfl, HB7.out⟩
            have t5 : decide (v.s ≤ q) = false := decide_eq_false c5
            by_cases c6 : 1099511627776 < v.s
            · have t6 : decide (1099511627776 < v.s) = true := decide_eq_true c6
              go_wp2_with fail
              go_ret
              exact ⟨by rw [HBAD2.out (fun h => by have := voteOk_pos h; omega)]; rfl, HB7.out⟩
            have t6 : decide (1099511627776 < v.s) = false := decide_eq_false c6
            have HM := Lib.hid (may_any v.r v.n nodes w7)
            have HVO := Lib.hid (voteOk_may (nodes := nodes) (q := q) (v := v) ⟨hn1, hn5⟩ (by omega) (by omega))
            cases hm7 : mayB v.r v.n nodes with
            | false =>
              rw [hm7] at HM
              have HMF := Lib.hid hm7
              clear hm7
              go_wp2_with fail
              refine HM.out.mono ?_; rintro e w8 ⟨rfl, hb8⟩
              have HB8 := Lib.hid (below_step HB7.out hb8)
              clear hb8 HM
              go_wp2_with fail
              go_ret
              exact ⟨by rw [HBAD2.out (by rw [HVO.out, HMF.out]; simp)]; rfl, HB8.out⟩
            | true =>
              rw [hm7] at HM
              have HMF := Lib.hid hm7
              clear hm7
              go_wp2_with fail
              refine HM.out.mono ?_; rintro e w8 ⟨rfl, hb8⟩
              have HB8 := Lib.hid (below_step HB7.out hb8)
              have HS8 := Lib.hid (hp_step HS7.out hb8)
              obtain ⟨u0, u1, u2, u3, uz⟩ := blk4 (hp_step HN7.out hb8)
              clear hb8 HM z0 z1 z2 z3 zz
              go_wp2_with fail
              go_roundw
              case rel => exact ⟨m + 1, by omega, by go_num, by rw [HLF.out], HS8, HB8, HLO.out (by rw [HVO.out, HMF.out])⟩
              case measure => simp [intOf]; omega
          · obtain rfl : m = pvs.length := by omega
            have HG' : Hid (RightTo nodes ((l.take (k + 1)).map pv)) := by
              have hL := HLo.out
              rw [List.take_length] at hL
              simp only [Hid]
              rw [HSN.out, rightTo_snoc]
              exact ⟨HG.out, prOk_iff.2 ⟨⟨by simp only [pv]; omega, by simp only [pv]; omega⟩, by simp only [pv, List.length_map]; omega, hL⟩, fun q hq => HNN.out q hq⟩
            go_wp2_with fail
            go_roundw
            case rel => exact ⟨k + 1, by omega, by go_num, HSo, HBo, HG'⟩
            case measure => simp [intOf]; omega
    · obtain rfl : k = l.length := by omega
      have HY : Hid (rightB nodes (l.map pv) = true) := by
        have := HG.out
        rw [List.take_length] at this
        exact right_yes ⟨hn1, hn5⟩ this
      go_wp2_with fail
      go_ret
      exact ⟨by rw [HY.out]; rfl, HB.out⟩
theorem right_ok (w : World) (nodes : Int) (a : Option Addr) (c : Nat) (l : List Pt) (h : RowP w a l) :
    Calls Try.prog 13 #[.int .i64 nodes, .slice a l.length c] w fun e w' => e = .returned (.bool (rightB nodes (l.map pv))) ∧ Below w.heap.size w w' := by
  by_cases hn : 1 ≤ nodes ∧ nodes ≤ 5
  · exact right_in w nodes a c l h hn.1 hn.2
  · have ho : nodes < 1 ∨ 5 < nodes := by omega
    rw [right_nodes ho]
    exact right_out w nodes _ ho
end Go.Proofs.Ytodoncmielfbeaa.chr
