/-
  choose.Right: which promises are right.
-/
import Derived.Test.YtcaakiaenfkeaaaGreatN03
import Derived.Deep.CutBlock
import Derived.Deep.RegionHeld3
import Derived.StillTailTactics
import Derived.Carry
import Derived.Test.YtcaakiaenfkeaaaGreatN02
import Derived.Deep.QuietTactic
import Derived.BigQuiet
import Derived.Lib.Hide
import Derived.WalkSpells
namespace Go.Proofs.YtcaakiaenfkeaaaGreat.chr
open Go.ChangeShapes Go.WideShapes Go.ChangeAt Go.RowKit
open Go.Proofs.YtcaakiaenfkeaaaGreat.kit Go.Proofs.YtcaakiaenfkeaaaGreat.mapkit Go.Proofs.YtcaakiaenfkeaaaGreat.byt Go.Proofs.YtcaakiaenfkeaaaGreat.own Go.Proofs.YtcaakiaenfkeaaaGreat.accd Go.Proofs.YtcaakiaenfkeaaaGreat.chd Go.Proofs.YtcaakiaenfkeaaaGreat.chb
open Go.Proofs.YtcaakiaenfkeaaaGreat.bal (knownB seenArr named seenArr_nil seenArr_get seen_once named_iff)
set_option linter.unusedVariables false
set_option linter.unusedSimpArgs false
set_option maxHeartbeats 1000000
set_option maxRecDepth 100000

theorem right_out (w : World) (nodes : Int) (v : Value) (hn : nodes < 1 ∨ 5 < nodes) : Calls Tryz.prog 61 #[.int .i64 nodes, v] w fun e w' => e = .returned (.bool false) ∧ Below w.heap.size w w' := by
  by_cases h1 : nodes < 1
  · go_enter Tryz.func61, Tryz.ntmps61
    go_wp2_with fail
    go_ret
    exact ⟨rfl, Below.refl _ _⟩
  · have h5 : 5 < nodes := by omega
    clear hn
    go_enter Tryz.func61, Tryz.ntmps61
    go_wp2_with fail
    go_ret
    exact ⟨rfl, Below.refl _ _⟩

theorem prOk_iff {nodes : Int} {p : chp.Pr} : chp.prOk nodes p = true ↔ (1 ≤ p.node ∧ p.node ≤ nodes) ∧ p.vs.length ≤ 16 ∧ chp.lastOk nodes 0 p.vs = true := by
  simp [chp.prOk, and_assoc]
theorem voteOk_vv (nodes q : Int) (v : Vt) : voteOk nodes q (vv v) = (decide (q < v.s) && decide (v.s ≤ 1099511627776) && (decide (1 ≤ v.r) && decide (1 ≤ v.n) && decide (v.n ≤ nodes))) := rfl
theorem voteOk_pos {nodes q : Int} {v : Vt} (h : voteOk nodes q (vv v) = true) : q < v.s ∧ v.s ≤ 1099511627776 := by
  rw [voteOk_vv] at h
  simp only [Bool.and_eq_true, decide_eq_true_eq] at h
  exact h.1
theorem voteOk_may {nodes q : Int} {v : Vt} (hn : 1 ≤ nodes ∧ nodes ≤ 5) (h1 : q < v.s) (h2 : v.s ≤ 1099511627776) : voteOk nodes q (vv v) = mayB v.r v.n nodes := by
  have hk : knownB nodes = true := by simp [knownB, hn]
  rw [voteOk_vv, mayB, hk, decide_eq_true h1, decide_eq_true h2]
  simp only [Bool.true_and]
theorem pv_take (l : List Pt) (k : Nat) (hk : k < l.length) : (l.take (k + 1)).map pv = (l.take k).map pv ++ [pv l[k]] := by
  rw [List.take_succ_eq_append_getElem hk, List.map_append]; rfl
theorem vv_take (l : List Vt) (k : Nat) (hk : k < l.length) : (l.take (k + 1)).map vv = (l.take k).map vv ++ [vv l[k]] := by
  rw [List.take_succ_eq_append_getElem hk, List.map_append]; rfl
theorem mem_named {nodes : Int} {l : List Pt} {x : Int} (h1 : 1 ≤ x) (h2 : x ≤ nodes) : named nodes (l.map Pt.node) x.toNat = true ↔ ∃ q ∈ l.map pv, q.node = x := by
  rw [named_iff]
  have e : ((x.toNat : Nat) : Int) = x := by omega
  rw [e]
  constructor
  · rintro ⟨_, _, h⟩
    obtain ⟨p, hp, rfl⟩ := List.mem_map.1 h
    exact ⟨pv p, List.mem_map_of_mem hp, rfl⟩
  · rintro ⟨q, hq, rfl⟩
    obtain ⟨p, hp, rfl⟩ := List.mem_map.1 hq
    exact ⟨by omega, h2, List.mem_map_of_mem hp⟩

theorem right_in (w : World) (nodes : Int) (a : Option Addr) (c : Nat) (l : List Pt) (h : RowP w a l) (hn1 : 1 ≤ nodes) (hn5 : nodes ≤ 5) :
    Calls Tryz.prog 61 #[.int .i64 nodes, .slice a l.length c] w fun e w' => e = .returned (.bool (rightB nodes (l.map pv))) ∧ Below w.heap.size w w' := by
  have hll := h.len
  have HH := Lib.hid (fun (wr : World) (hb : Below w.heap.size w wr) => h.below hb)
  clear h
  go_enter Tryz.func61, Tryz.ntmps61
  go_wp2_with fail
  go_loopw [19] (fun i wr => ∃ k : Nat, k ≤ l.length ∧ i = .int .i64 k ∧ Hid (wr.heap[w.heap.size]? = some (.cells (seenArr nodes ((l.take k).map Pt.node)) 150 (0, 0))) ∧ Hid (Below w.heap.size w wr) ∧ Hid (RightTo nodes ((l.take k).map pv)))
    (fun i _ => l.length - (intOf i).toNat)
  case atStart => exact ⟨0, Nat.zero_le _, rfl, by simp only [Hid]; rw [hp_alloc_new, List.take_zero, List.map_nil, seenArr_nil], (Below.refl _ _).alloc (Nat.le_refl _) _, rightTo_nil _⟩
  case round =>
    obtain ⟨k, hk, rfl, HS, HB, HG⟩ := hrel
    by_cases hlt : k < l.length
    · have hP := HH.out wr HB.out
      obtain ⟨g, off, rfl, hgz, x0, x1⟩ := hP.cells k hlt
      have hgp := fun (wx : World) (hb : Below w.heap.size w wx) => (HH.out wx hb).good _ (List.getElem_mem hlt)
      have hbad : ¬ RightTo nodes ((l.take (k + 1)).map pv) → rightB nodes (l.map pv) = false := by
        rw [List.map_take]; exact right_not
      have hsn := pv_take l k hlt
      have hsm : (l.take (k + 1)).map Pt.node = (l.take k).map Pt.node ++ [l[k].node] := by rw [List.take_succ_eq_append_getElem hlt, List.map_append]; rfl
      obtain ⟨p, hp⟩ : ∃ p, p = l[k] := ⟨_, rfl⟩
      rw [← hp] at x0 x1 hgp hsn hsm
      rw [hsn, rightTo_snoc] at hbad
      obtain ⟨pn, pvs, pa, pc⟩ := p
      dsimp only at x0 x1 hsm
      have HBAD := Lib.hid hbad
      have HSN := Lib.hid hsn
      have HSM := Lib.hid hsm
      have HGP := Lib.hid hgp
      obtain ⟨w5, hw5⟩ : ∃ w5, w5 = wr.alloc (.cells #[.int .i64 pn, .slice pa pvs.length pc] 115) := ⟨_, rfl⟩
      have hn5' : w5.heap[wr.heap.size]? = some (.cells #[.int .i64 pn, .slice pa pvs.length pc] 115 (0, 0)) := by rw [hw5]; exact hp_alloc_new _ _
      have hb5 : Below wr.heap.size wr w5 := by rw [hw5]; exact below_new1 _ _
      have HB5 := Lib.hid (below_step HB.out hb5)
      have hs5 := hp_step HS.out hb5
      have HS5 := Lib.hid hs5
      have HW5 := Lib.hid hw5
      obtain ⟨nb, hnb⟩ : ∃ nb, nb = wr.heap.size := ⟨_, rfl⟩
      rw [← hnb] at hn5'
      have HNB := Lib.hid hnb
      have hws : w.heap.size < nb := by have := (kit.blk HS.out).2.2; omega
      have HN5 := Lib.hid hn5'
      obtain ⟨y0, y1, fy0, fy1, yz⟩ := blk2 hn5'
      obtain ⟨hq, hf, hz⟩ := kit.blk hs5
      have HQ := Lib.hid hq
      have HF := Lib.hid hf
      have hpl : pvs.length ≤ 2932031007402 := (hgp wr HB.out).row.len
      clear hP hgp hbad hsn hsm hp hw5 hn5' hb5 hs5 hnb hq hf HS
      go_upto_region 7 with fail
      rw [← HW5.out, ← HNB.out]
      clear x0 x1 HW5
      by_cases c1 : pn < 1
      · have t1 : decide (pn < 1) = true := decide_eq_true c1
        go_wp2_with fail
        go_ret
        exact ⟨by rw [HBAD.out (fun h => by have := prOk_iff.1 h.2.1; simp only [pv, List.length_map] at this; omega)]; rfl, HB5.out⟩
      have t1 : decide (pn < 1) = false := decide_eq_false c1
      by_cases c2 : nodes < pn
      · have t2 : decide (nodes < pn) = true := decide_eq_true c2
        go_wp2_with fail
        go_ret
        exact ⟨by rw [HBAD.out (fun h => by have := prOk_iff.1 h.2.1; simp only [pv, List.length_map] at this; omega)]; rfl, HB5.out⟩
      have t2 : decide (nodes < pn) = false := decide_eq_false c2
      have hq := HQ.out pn.toNat
      have hfr := HF.out pn.toNat
      rw [seenArr_get _ _ _ (by omega)] at hq
      have hx0 : 0 ≤ pn ∧ pn < 6 := by omega
      cases hnm : named nodes ((l.take k).map Pt.node) pn.toNat with
      | true =>
        rw [hnm] at hq
        have HN := Lib.hid hnm
        clear hnm
        go_wp2_with fail
        go_ret
        exact ⟨by rw [HBAD.out (fun h => by obtain ⟨q, hq, e⟩ := (mem_named (by omega) (by omega)).1 HN.out; exact h.2.2 q hq e)]; rfl, HB5.out⟩
      | false =>
        rw [hnm] at hq
        have HN := Lib.hid hnm
        clear hnm
        by_cases c4 : 16 < pvs.length
        · have t4 : decide ((16 : Int) < (pvs.length : Int)) = true := decide_eq_true (by omega)
          have t4' : (16 : Int) < (pvs.length : Int) := by omega
          go_wp2_with fail
          go_ret
          exact ⟨by rw [HBAD.out (fun h => by have := prOk_iff.1 h.2.1; simp only [pv, List.length_map] at this; omega)]; rfl, HB5.out⟩
        have t4 : decide ((16 : Int) < (pvs.length : Int)) = false := decide_eq_false (by omega)
        have t4' : ¬ (16 : Int) < (pvs.length : Int) := by omega
        have hnn : ∀ q ∈ (l.take k).map pv, q.node ≠ pn := fun q hq e => by
          have := (mem_named (nodes := nodes) (l := l.take k) (x := pn) (by omega) (by omega)).2 ⟨q, hq, e⟩
          rw [HN.out] at this
          simp at this
        have HNN := Lib.hid hnn
        have hkn : knownB nodes = true := by simp [knownB]; omega
        have hse : seenArr nodes ((l.take k).map Pt.node ++ [pn]) = (seenArr nodes ((l.take k).map Pt.node)).setIfInBounds pn.toNat (.bool true) := (seen_once (n := nodes) rfl (by omega) (by omega) (by omega) HN.out).1
        obtain ⟨w6, hw6⟩ : ∃ w6, w6 = w5.setCell ⟨w.heap.size, pn.toNat, none⟩ (.bool true) := ⟨_, rfl⟩
        have hs6 : w6.heap[w.heap.size]? = some (.cells (seenArr nodes ((l.take (k + 1)).map Pt.node)) 150 (0, 0)) := by
          rw [hw6, HSM.out, hse]
          exact hp_set HS5.out _ _
        have hb6 : Below w.heap.size w w6 := by rw [hw6]; exact HB5.out.setCell (p := ⟨w.heap.size, pn.toNat, none⟩) (Nat.le_refl _) _
        have hn6 : w6.heap[nb]? = some (.cells #[.int .i64 pn, .slice pa pvs.length pc] 115 (0, 0)) := by
          rw [hw6]
          exact (hp_set_ne (a := ⟨w.heap.size, pn.toNat, none⟩) (by show nb ≠ w.heap.size; omega)).trans HN5.out
        have HS6 := Lib.hid hs6
        have HB6 := Lib.hid hb6
        have HW6 := Lib.hid hw6
        have HN6 := Lib.hid hn6
        clear hs6 hb6 hw6 hnn hkn hse hn6
        go_upto_region 10 with fail
        rw [← HW6.out]
        clear y0 y1 fy0 fy1 hq hfr
        obtain ⟨y0, y1, fy0, fy1, -⟩ := blk2 HN6.out
        go_upto_region 12 with fail
        go_loopw [8, 50] (fun q j wo => ∃ m : Nat, m ≤ pvs.length ∧ j = .int .i64 m ∧ q = .int .i64 (lastF 0 ((pvs.take m).map vv)) ∧ Hid (wo.heap[w.heap.size]? = some (.cells (seenArr nodes ((l.take (k + 1)).map Pt.node)) 150 (0, 0))) ∧ Hid (Below w.heap.size w wo) ∧ Hid (chp.lastOk nodes 0 ((pvs.take m).map vv) = true))
          (fun _ j _ => pvs.length - (intOf j).toNat)
        case atStart => exact ⟨0, Nat.zero_le _, rfl, rfl, HS6, HB6, rfl⟩
        case round =>
          obtain ⟨wo, rfl⟩ : ∃ wo : World, wo = wr := ⟨_, rfl⟩
          obtain ⟨m, hm, rfl, rfl, HSo, HBo, HLo⟩ := hrel
          by_cases hmt : m < pvs.length
          · have hR := (HGP.out wo HBo.out).row
            obtain ⟨g2, off2, rfl, hgz2, x0, x1, x2, x3⟩ := hR.cells m hmt
            have hvs := vv_take pvs m hmt
            have hbad2 : ¬ chp.lastOk nodes 0 ((pvs.take (m + 1)).map vv) = true → rightB nodes (l.map pv) = false := by
              intro hno
              refine HBAD.out (fun h => hno ?_)
              have h2 := (prOk_iff.1 h.2.1).2.2
              rw [List.map_take]
              exact lastOk_take _ h2
            rw [hvs, lastOk_snoc] at hbad2
            have hlf : lastF 0 ((pvs.take (m + 1)).map vv) = pvs[m].s := by rw [hvs, lastF_snoc]; rfl
            have hlo : voteOk nodes (lastF 0 ((pvs.take m).map vv)) (vv pvs[m]) = true → chp.lastOk nodes 0 ((pvs.take (m + 1)).map vv) = true := by
              intro h
              rw [hvs, lastOk_snoc, HLo.out, h]; rfl
            obtain ⟨v, hv⟩ : ∃ v, v = pvs[m] := ⟨_, rfl⟩
            rw [← hv] at x0 x1 x2 x3 hbad2 hlf hlo
            obtain ⟨q, hq⟩ : ∃ q, q = lastF 0 ((pvs.take m).map vv) := ⟨_, rfl⟩
            rw [← hq] at hbad2 hlo ⊢
            have HBAD2 : Hid (¬ voteOk nodes q (vv v) = true → rightB nodes (l.map pv) = false) := fun h => hbad2 (by rw [HLo.out]; simpa using h)
            have HLF := Lib.hid hlf
            have HLO := Lib.hid hlo
            obtain ⟨w7, hw7⟩ : ∃ w7, w7 = wo.alloc (.cells #[.int .i64 v.s, .int .i64 v.r, .int .i64 v.n, .slice v.a v.l.length v.c] 45) := ⟨_, rfl⟩
            have hn7 : w7.heap[wo.heap.size]? = some (.cells #[.int .i64 v.s, .int .i64 v.r, .int .i64 v.n, .slice v.a v.l.length v.c] 45 (0, 0)) := by rw [hw7]; exact hp_alloc_new _ _
            have hb7 : Below wo.heap.size wo w7 := by rw [hw7]; exact below_new1 _ _
            have HB7 := Lib.hid (below_step HBo.out hb7)
            have HS7 := Lib.hid (hp_step HSo.out hb7)
            have HW7 := Lib.hid hw7
            obtain ⟨mb, hmb⟩ : ∃ mb, mb = wo.heap.size := ⟨_, rfl⟩
            rw [← hmb] at hn7
            have HMB := Lib.hid hmb
            have HN7 := Lib.hid hn7
            obtain ⟨z0, z1, z2, z3, zz⟩ := blk4 hn7
            clear hR hvs hbad2 hlf hlo hv hq hw7 hn7 hb7 hmb y0 y1 yz fy0 fy1
            go_upto_region 14 with fail
            rw [← HW7.out, ← HMB.out]
            clear HW7 HMB x0 x1 x2 x3
            by_cases c5 : v.s ≤ q
            · have t5 : decide (v.s ≤ q) = true := decide_eq_true c5
              go_wp2_with fail
              go_ret
              exact ⟨by rw [HBAD2.out (fun h => by have := voteOk_pos h; omega)]; rfl, HB7.out⟩
            have t5 : decide (v.s ≤ q) = false := decide_eq_false c5
            by_cases c6 : 1099511627776 < v.s
            · have t6 : decide (1099511627776 < v.s) = true := decide_eq_true c6
              go_wp2_with fail
              go_ret
              exact ⟨by rw [HBAD2.out (fun h => by have := voteOk_pos h; omega)]; rfl, HB7.out⟩
            have t6 : decide (1099511627776 < v.s) = false := decide_eq_false c6
            have HM := Lib.hid (may_any v.r v.n nodes w7)
            have HVO := Lib.hid (voteOk_may (nodes := nodes) (q := q) (v := v) ⟨hn1, hn5⟩ (by omega) (by omega))
            cases hm7 : mayB v.r v.n nodes with
            | false =>
              rw [hm7] at HM
              have HMF := Lib.hid hm7
              clear hm7
              go_wp2_with fail
              refine HM.out.mono ?_; rintro e w8 ⟨rfl, hb8⟩
              have HB8 := Lib.hid (below_step HB7.out hb8)
              clear hb8 HM
              go_wp2_with fail
              go_ret
              exact ⟨by rw [HBAD2.out (by rw [HVO.out, HMF.out]; simp)]; rfl, HB8.out⟩
            | true =>
              rw [hm7] at HM
              have HMF := Lib.hid hm7
              clear hm7
              go_wp2_with fail
              refine HM.out.mono ?_; rintro e w8 ⟨rfl, hb8⟩
              have HB8 := Lib.hid (below_step HB7.out hb8)
              have HS8 := Lib.hid (hp_step HS7.out hb8)
              obtain ⟨u0, u1, u2, u3, uz⟩ := blk4 (hp_step HN7.out hb8)
              clear hb8 HM z0 z1 z2 z3 zz
              go_wp2_with fail
              go_roundw
              case rel => exact ⟨m + 1, by omega, by go_num, by rw [HLF.out], HS8, HB8, HLO.out (by rw [HVO.out, HMF.out])⟩
              case measure => simp [intOf]; omega
          · obtain rfl : m = pvs.length := by omega
            have HG' : Hid (RightTo nodes ((l.take (k + 1)).map pv)) := by
              have hL := HLo.out
              rw [List.take_length] at hL
              simp only [Hid]
              rw [HSN.out, rightTo_snoc]
              exact ⟨HG.out, prOk_iff.2 ⟨⟨by simp only [pv]; omega, by simp only [pv]; omega⟩, by simp only [pv, List.length_map]; omega, hL⟩, fun q hq => HNN.out q hq⟩
            go_wp2_with fail
            go_roundw
            case rel => exact ⟨k + 1, by omega, by go_num, HSo, HBo, HG'⟩
            case measure => simp [intOf]; omega
    · obtain rfl : k = l.length := by omega
      have HY : Hid (rightB nodes (l.map pv) = true) := by
        have := HG.out
        rw [List.take_length] at this
        exact right_yes ⟨hn1, hn5⟩ this
      go_wp2_with fail
      go_ret
      exact ⟨by rw [HY.out]; rfl, HB.out⟩
theorem right_ok (w : World) (nodes : Int) (a : Option Addr) (c : Nat) (l : List Pt) (h : RowP w a l) :
    Calls Tryz.prog 61 #[.int .i64 nodes, .slice a l.length c] w fun e w' => e = .returned (.bool (rightB nodes (l.map pv))) ∧ Below w.heap.size w w' := by
  by_cases hn : 1 ≤ nodes ∧ nodes ≤ 5
  · exact right_in w nodes a c l h hn.1 hn.2
  · have ho : nodes < 1 ∨ 5 < nodes := by omega
    rw [right_nodes ho]
    exact right_out w nodes _ ho
end Go.Proofs.YtcaakiaenfkeaaaGreat.chr
/-
  The document's Right.
-/
namespace Go.Proofs.YtcaakiaenfkeaaaGreat.chrr
open Go.ChangeShapes Go.WideShapes Go.ChangeAt Go.RowKit
open Go.Proofs.YtcaakiaenfkeaaaGreat.kit Go.Proofs.YtcaakiaenfkeaaaGreat.mapkit Go.Proofs.YtcaakiaenfkeaaaGreat.byt Go.Proofs.YtcaakiaenfkeaaaGreat.own Go.Proofs.YtcaakiaenfkeaaaGreat.accd Go.Proofs.YtcaakiaenfkeaaaGreat.chd Go.Proofs.YtcaakiaenfkeaaaGreat.chb Go.Proofs.YtcaakiaenfkeaaaGreat.chr
open Go.Proofs.YtcaakiaenfkeaaaGreat.bal (knownB)
set_option linter.unusedVariables false
set_option linter.unusedSimpArgs false
set_option maxHeartbeats 1000000
set_option maxRecDepth 100000

end Go.Proofs.YtcaakiaenfkeaaaGreat.chrr
/-
  Casts and entries in memory: rows of one's own; same.Entry, same.Entries.
-/
namespace Go.Proofs.YtcaakiaenfkeaaaGreat.che
open Go.ChangeShapes Go.WideShapes Go.ChangeAt Go.RowKit
open Go.Proofs.YtcaakiaenfkeaaaGreat.kit Go.Proofs.YtcaakiaenfkeaaaGreat.mapkit Go.Proofs.YtcaakiaenfkeaaaGreat.byt Go.Proofs.YtcaakiaenfkeaaaGreat.own Go.Proofs.YtcaakiaenfkeaaaGreat.accd Go.Proofs.YtcaakiaenfkeaaaGreat.chd Go.Proofs.YtcaakiaenfkeaaaGreat.chb
set_option linter.unusedVariables false
set_option linter.unusedSimpArgs false
set_option maxHeartbeats 1000000
set_option maxRecDepth 100000

theorem flat_len {α : Type} {f : α → List Value} {size : Nat} (hf : ∀ x, (f x).length = size) (L : List α) : (L.flatMap f).length = L.length * size := by
  induction L with
  | nil => simp
  | cons x L ih => rw [List.flatMap_cons, List.length_append, hf, ih, List.length_cons, Nat.add_mul]; omega
theorem flat_get {α : Type} {f : α → List Value} {size : Nat} (hf : ∀ x, (f x).length = size) : ∀ (L : List α) (i : Nat) (hi : i < L.length) (j : Nat), j < size → (L.flatMap f)[i * size + j]? = (f L[i])[j]?
  | [], i, hi, _, _ => absurd hi (by simp)
  | x :: L, 0, _, j, hj => by
    rw [List.flatMap_cons, Nat.zero_mul, Nat.zero_add, List.getElem?_append_left (by rw [hf]; exact hj)]
    rfl
  | x :: L, i + 1, hi, j, hj => by
    rw [List.flatMap_cons, List.getElem?_append_right (by rw [hf, Nat.add_mul]; omega), hf, show (i + 1) * size + j - size = i * size + j by rw [Nat.add_mul]; omega]
    exact flat_get hf L i (by simpa using hi) j hj
/-- A row of one's own lies somewhere. -/
theorem own_rows {α : Type} {w : World} {base : Nat} {e : TypeId} {size c : Nat} {a : Option Addr} {L : List α} {f : α → List Value} (hf : ∀ x, (f x).length = size) (h : w.ownsRow base e size (.slice a L.length c) L.length (L.flatMap f)) : RowsAt w a size (L.map f) := by
  by_cases h0 : L = []
  · left; simp [h0]
  · have hpos : 0 < L.length := List.length_pos_iff.2 h0
    obtain ⟨g, rfl⟩ := own_ptr h hpos
    rcases h.2 with ⟨hz, _⟩ | ⟨g', c', cur, e', hg, hh, hc, hm, hsz, hcur⟩
    · simp at hz
    · simp only [Value.slice.injEq, Option.some.injEq, Addr.mk.injEq, and_true, true_and] at e'
      obtain ⟨rfl, _⟩ := e'
      refine .inr ⟨g, 0, rfl, (kit.blk hh).2.2, fun i hi j hj => ?_⟩
      have hi' : i < L.length := by simpa using hi
      rw [(kit.blk hh).1, Nat.zero_add]
      have h1 : (cur.toList.take (L.length * size))[i * size + j]? = (L.flatMap f)[i * size + j]? := by rw [hcur]
      have hlt : i * size + j < L.length * size := by
        have := Nat.mul_le_mul_right size (show i + 1 ≤ L.length from hi')
        rw [Nat.add_mul] at this; omega
      rw [List.getElem?_take, if_pos hlt, Array.getElem?_toList] at h1
      rw [h1, flat_get hf L i hi' j hj, List.getElem_map]

/-- A cast as it lies: whose, and the vote. -/
abbrev Ct := Int × Vt
def ccells (c : Ct) : List Value := [.int .i64 c.1, .int .i64 c.2.s, .int .i64 c.2.r, .int .i64 c.2.n, .slice c.2.a c.2.l.length c.2.c]
theorem ccells_len (c : Ct) : (ccells c).length = 5 := rfl
/-- What a cast says. -/
def cvv (c : Ct) : Int × chp.V := (c.1, vv c.2)
def atT (slot : Int) (p : Pt) : List Ct := (p.vs.filter (fun v => decide (v.s = slot))).map (fun v => (p.node, v))
theorem at_pv (slot : Int) (p : Pt) : (atT slot p).map cvv = chp.at_ slot (pv p) := by
  unfold atT chp.at_ pv
  rw [List.filter_map, List.map_map, List.map_map]
  rfl
theorem at_rd {w : World} {slot : Int} {p : Pt} (h : GoodP w p) : ∀ c ∈ atT slot p, Rd w c.2 := by
  intro c hc
  obtain ⟨v, hv, rfl⟩ := List.mem_map.1 hc
  exact h.row.good v (List.mem_filter.1 hv).1
/-- A row of casts of one's own. -/
structure RowK (w : World) (base : Nat) (T : TypeId) (a : Option Addr) (c : Nat) (cs : List Ct) : Prop where
  row : w.ownsRow base T 5 (.slice a cs.length c) cs.length (cs.flatMap ccells)
  rd : ∀ x ∈ cs, Rd w x.2
theorem RowK.below {w w' : World} {base : Nat} {T : TypeId} {a : Option Addr} {c : Nat} {cs : List Ct} (h : RowK w base T a c cs) (hb : Below w.heap.size w w') : RowK w' base T a c cs := ⟨own_below h.row hb, fun x hx => (h.rd x hx).below hb⟩
theorem RowK.cells {w : World} {base : Nat} {T : TypeId} {a : Option Addr} {c : Nat} {cs : List Ct} (h : RowK w base T a c cs) {k : Nat} (hk : k < cs.length) :
    ∃ g, a = some ⟨g, 0, none⟩ ∧ g < w.heap.size ∧ cs.length ≤ maxLen ∧ w.cell? ⟨g, k * 5, none⟩ = some (.int .i64 cs[k].1) ∧ w.cell? ⟨g, k * 5 + 1, none⟩ = some (.int .i64 cs[k].2.s) ∧ w.cell? ⟨g, k * 5 + 2, none⟩ = some (.int .i64 cs[k].2.r) ∧ w.cell? ⟨g, k * 5 + 3, none⟩ = some (.int .i64 cs[k].2.n) ∧
      w.cell? ⟨g, k * 5 + 4, none⟩ = some (.slice cs[k].2.a cs[k].2.l.length cs[k].2.c) := by
  obtain ⟨g, rfl⟩ := own_ptr h.row (by omega)
  have hcap : cs.length ≤ maxLen := by
    rcases h.row.2 with ⟨hz0, _⟩ | ⟨g', cap, cur, e', hgb, hh, hc', hm', _⟩
    · simp at hz0
    · omega
  rcases own_rows ccells_len h.row with h0 | ⟨b, off, e, hz, hc⟩
  · have : cs = [] := by simpa using h0
    subst this; simp at hk
  · simp only [Option.some.injEq, Addr.mk.injEq, and_true] at e
    obtain ⟨rfl, rfl⟩ := e
    have hi : k < (cs.map ccells).length := by simpa using hk
    have e0 := hc k hi 0 (by omega)
    have e1 := hc k hi 1 (by omega)
    have e2 := hc k hi 2 (by omega)
    have e3 := hc k hi 3 (by omega)
    have e4 := hc k hi 4 (by omega)
    simp only [List.getElem_map, Nat.add_zero, Nat.zero_add] at e0 e1 e2 e3 e4
    exact ⟨g, rfl, hz, hcap, e0.trans rfl, e1.trans rfl, e2.trans rfl, e3.trans rfl, e4.trans rfl⟩

/-- An entry as it lies. -/
structure Et where
  s : Int
  l : List Nat
  a : Option Addr
  c : Nat
def Et.cells (e : Et) : List Value := [.int .i64 e.s, .slice e.a e.l.length e.c]
theorem ecells_len (e : Et) : e.cells.length = 2 := rfl
def le (e : Et) : Int × List Nat := (e.s, e.l)
/-- A row of entries, wherever it lies. -/
structure RowE (w : World) (a : Option Addr) (es : List Et) : Prop where
  row : RowsAt w a 2 (es.map Et.cells)
  lie : ∀ e ∈ es, Lie w e.a (bcells e.l) ∧ (e.a = none → e.l.length = 0 ∧ e.c = 0) ∧ e.l.length ≤ 140737488355328
  len : es.length ≤ 1099511627776
theorem RowE.below {w w' : World} {a : Option Addr} {es : List Et} (h : RowE w a es) (hb : Below w.heap.size w w') : RowE w' a es := ⟨h.row.below hb, fun e he => ⟨(h.lie e he).1.below hb, (h.lie e he).2⟩, h.len⟩
theorem RowE.cells {w : World} {a : Option Addr} {es : List Et} (h : RowE w a es) (k : Nat) (hk : k < es.length) :
    ∃ g off, a = some ⟨g, off, none⟩ ∧ g < w.heap.size ∧ w.cell? ⟨g, off + k * 2, none⟩ = some (.int .i64 es[k].s) ∧ w.cell? ⟨g, off + k * 2 + 1, none⟩ = some (.slice es[k].a es[k].l.length es[k].c) := by
  rcases h.row with h | ⟨b, off, rfl, hz, h3⟩
  · have : es = [] := by simpa using h
    subst this; simp at hk
  · have hi : k < (es.map Et.cells).length := by simpa using hk
    have e0 := h3 k hi 0 (by omega)
    have e1 := h3 k hi 1 (by omega)
    simp only [List.getElem_map, Nat.add_zero] at e0 e1
    exact ⟨b, off, rfl, hz, e0.trans rfl, e1.trans rfl⟩
/-- A row of entries of one's own, their values too. -/
structure OwnE (w : World) (base : Nat) (a : Option Addr) (c : Nat) (es : List Et) : Prop where
  row : w.ownsRow base 47 2 (.slice a es.length c) es.length (es.flatMap Et.cells)
  body : ∀ e ∈ es, w.ownsRow base 5 1 (.slice e.a e.l.length e.c) e.l.length (bcells e.l)
theorem OwnE.below {w w' : World} {base : Nat} {a : Option Addr} {c : Nat} {es : List Et} (h : OwnE w base a c es) (hb : Below w.heap.size w w') : OwnE w' base a c es := ⟨own_below h.row hb, fun e he => own_below (h.body e he) hb⟩
theorem OwnE.mono {w : World} {base base' : Nat} {a : Option Addr} {c : Nat} {es : List Et} (h : OwnE w base a c es) (hb : base' ≤ base) : OwnE w base' a c es := ⟨own_mono h.row hb, fun e he => own_mono (h.body e he) hb⟩
theorem ownE_nil (w : World) (base : Nat) : OwnE w base none 0 [] := ⟨World.ownsRow_nil _ _ _ _, by simp⟩
theorem OwnE.rows {w : World} {base : Nat} {a : Option Addr} {c : Nat} {es : List Et} (h : OwnE w base a c es) (hl : es.length ≤ 1099511627776) (hv : ∀ e ∈ es, e.l.length ≤ 140737488355328) : RowE w a es := by
  refine ⟨own_rows ecells_len h.row, fun e he => ?_, hl⟩
  obtain ⟨ao, cap, e1, h1, h2, h3⟩ := owned_lie (h.body e he)
  simp only [Value.slice.injEq, true_and] at e1
  obtain ⟨rfl, rfl⟩ := e1
  exact ⟨h2, h1, hv e he⟩

def sameE (x y : Int × List Nat) : Bool := x.1 == y.1 && sameB x.2 y.2
theorem sameE_self (x : Int × List Nat) : sameE x x = true := by simp [sameE, sameB]
end Go.Proofs.YtcaakiaenfkeaaaGreat.che
/-
  Contracts of an acceptor's small functions: New, First, Promised, real, ballot.Less, copied.
-/
namespace Go.Proofs.YtcaakiaenfkeaaaGreat.acca
open Go.ChangeShapes Go.WideShapes Go.ChangeAt Go.RowKit
open Go.Proofs.YtcaakiaenfkeaaaGreat.kit Go.Proofs.YtcaakiaenfkeaaaGreat.mapkit Go.Proofs.YtcaakiaenfkeaaaGreat.byt Go.Proofs.YtcaakiaenfkeaaaGreat.own Go.Proofs.YtcaakiaenfkeaaaGreat.accd
set_option linter.unusedVariables false
set_option linter.unusedSimpArgs false
set_option maxHeartbeats 1000000
set_option maxRecDepth 100000

theorem blk4 {w : World} {b : Nat} {x y z u : Value} {T : TypeId} (h : w.heap[b]? = some (.cells #[x, y, z, u] T (0, 0))) : w.cell? ⟨b, 0, none⟩ = some x ∧ w.cell? ⟨b, 1, none⟩ = some y ∧ w.cell? ⟨b, 2, none⟩ = some z ∧ w.cell? ⟨b, 3, none⟩ = some u ∧ b < w.heap.size := by
  obtain ⟨h1, h2, h3⟩ := kit.blk h
  exact ⟨h1 0, h1 1, h1 2, h1 3, h3⟩
theorem blk4f {w : World} {b : Nat} {x y z u : Value} {T : TypeId} (h : w.heap[b]? = some (.cells #[x, y, z, u] T (0, 0))) : w.frozen? ⟨b, 0, none⟩ = false ∧ w.frozen? ⟨b, 1, none⟩ = false ∧ w.frozen? ⟨b, 2, none⟩ = false ∧ w.frozen? ⟨b, 3, none⟩ = false := by
  obtain ⟨h1, h2, h3⟩ := kit.blk h
  exact ⟨h2 0, h2 1, h2 2, h2 3⟩
def lessB (r1 n1 r2 n2 : Int) : Bool := decide (r1 < r2) || (decide (r1 = r2) && decide (n1 < n2))
def realB (r n : Int) : Bool := decide (1 ≤ r) && decide (1 ≤ n)
theorem less_any (r1 n1 r2 n2 : Int) (w : World) :
    Calls Tryz.prog 40 #[.agg #[.int .i64 r1, .int .i64 n1], .agg #[.int .i64 r2, .int .i64 n2]] w
      fun e w' => e = .returned (.bool (lessB r1 n1 r2 n2)) ∧ Below w.heap.size w w' := by
  rcases Int.lt_trichotomy r1 r2 with h | h | h
  · have hL : Hid (lessB r1 n1 r2 n2 = true) := by simp [Hid, lessB, h]
    go_enter Tryz.func40, Tryz.ntmps40
    go_wp2
    go_ret
    exact ⟨by rw [hL.out]; rfl, (((Below.refl _ _).alloc (Nat.le_refl _) _).alloc (by simp) _)⟩
  · subst h
    have hL : Hid (lessB r1 n1 r1 n2 = decide (n1 < n2)) := by simp [Hid, lessB]
    go_enter Tryz.func40, Tryz.ntmps40
    go_wp2
    go_ret
    exact ⟨by rw [hL.out]; rfl, (((Below.refl _ _).alloc (Nat.le_refl _) _).alloc (by simp) _)⟩
  · have hL : Hid (lessB r1 n1 r2 n2 = false) := by simp [Hid, lessB]; omega
    have h1 : decide (r1 < r2) = false := by simp; omega
    have h2 : (r1 == r2) = false := by simp; omega
    go_enter Tryz.func40, Tryz.ntmps40
    go_wp2
    go_ret
    exact ⟨by rw [hL.out]; simp [h1], (((Below.refl _ _).alloc (Nat.le_refl _) _).alloc (by simp) _)⟩
theorem real_any (r n : Int) (w : World) :
    Calls Tryz.prog 39 #[.agg #[.int .i64 r, .int .i64 n]] w fun e w' => e = .returned (.bool (realB r n)) ∧ Below w.heap.size w w' := by
  by_cases h : 1 ≤ r
  · have hL : Hid (realB r n = decide (1 ≤ n)) := by simp [Hid, realB, h]
    go_enter Tryz.func39, Tryz.ntmps39
    go_wp2
    go_ret
    exact ⟨by rw [hL.out]; rfl, below_new1 _ _⟩
  · have hL : Hid (realB r n = false) := by simp [Hid, realB, h]
    have h1 : decide (1 ≤ r) = false := by simp; omega
    go_enter Tryz.func39, Tryz.ntmps39
    go_wp2
    go_ret
    exact ⟨by rw [hL.out]; simp [h1], below_new1 _ _⟩
/-- A vote whose value can be read. -/
structure Rd (w : World) (v : Vt) : Prop where
  lie : Lie w v.a (bcells v.l)
  nil : v.a = none → v.l.length = 0 ∧ v.c = 0
  len : v.l.length ≤ 140737488355328
theorem Rd.below {w w' : World} {v : Vt} (h : Rd w v) (hb : Below w.heap.size w w') : Rd w' v := ⟨h.lie.below hb, h.nil, h.len⟩
theorem body_rd {w : World} {base : Nat} {v : Vt} (h : accd.Body w base v) (hl : v.l.length ≤ 140737488355328) : Rd w v := ⟨(body_lie h).1, (body_lie h).2, hl⟩
theorem copied_any (w : World) (v : Vt) (h : Rd w v) : Calls Tryz.prog 52 #[v.val] w fun e w' => ∃ v', e = .returned (Vt.val v') ∧ lv v' = lv v ∧ accd.Body w' w.heap.size v' ∧ Below w.heap.size w w' := by
  obtain ⟨w2, hw2⟩ : ∃ w2 : World, w2 = (w.alloc (.cells #[.int .i64 v.s, .int .i64 v.r, .int .i64 v.n, .slice v.a v.l.length v.c] 45)).alloc (.cells #[.int .i64 0, .int .i64 0, .int .i64 0, .slice none 0 0] 45) := ⟨_, rfl⟩
  have hb2 : Below w.heap.size w w2 := by rw [hw2]; exact below_new2 _ _ _
  have hn2 := new2 w (.cells #[.int .i64 v.s, .int .i64 v.r, .int .i64 v.n, .slice v.a v.l.length v.c] 45) (.cells #[.int .i64 0, .int .i64 0, .int .i64 0, .slice none 0 0] 45)
  rw [← hw2] at hn2
  obtain ⟨n0, n1, hs2⟩ := hn2
  have HC := Lib.hid (clone_any v.l v.a v.c w2 h.len h.nil (h.lie.below hb2))
  have HB2 := Lib.hid hb2
  have HN0 := Lib.hid n0
  have HN1 := Lib.hid n1
  have HW := Lib.hid hw2
  clear hb2 n0 n1 hw2
  simp only [Vt.val]
  go_enter Tryz.func52, Tryz.ntmps52
  go_wp2_with fail
  rw [← HW.out]
  refine HC.out.mono ?_; rintro e w3 ⟨v3, rfl, hown, hb3⟩
  obtain ⟨a3, c3, rfl⟩ := own_shape hown
  have m0 := hp_step HN0.out hb3
  have m1 := hp_step HN1.out hb3
  have hz3 := hb3.size
  have hb := below_step HB2.out hb3
  have HOWN := Lib.hid (own_mono hown (by omega) : w3.ownsRow w.heap.size 5 1 _ _ _)
  have HB := Lib.hid hb
  obtain ⟨p0, p1, p2, p3, pz⟩ := blk4 m0
  obtain ⟨q0, q1, q2, q3, qz⟩ := blk4 m1
  obtain ⟨f0, f1, f2, f3⟩ := blk4f m1
  obtain ⟨-, -, -, t3⟩ := blk4f m0
  have M0 := Lib.hid m0
  have M1 := Lib.hid m1
  clear hown hb3 m0 m1 hb HC HW HB2 HN0 HN1
  go_wp2_with fail
  refine bodyPost_ret (v := .agg #[.int .i64 v.s, .int .i64 v.r, .int .i64 v.n, .slice a3 v.l.length c3]) (by simp [results, Tryz.results52, go_sem, p0, p1, p2, p3, q0, q1, q2, q3]) rfl ⟨⟨v.s, v.r, v.n, v.l, a3, c3⟩, rfl, rfl, ?_, ?_⟩
  · refine own_kept HOWN.out (fun g hg => ?_)
    have h0 : g ≠ w.heap.size := own_ne HOWN.out M0.out (by decide) g hg
    have h1 : g ≠ w.heap.size + 1 := own_ne HOWN.out M1.out (by decide) g hg
    rw [hp_set_ne (by exact h1), hp_set_ne (by exact h1), hp_set_ne (by exact h1), hp_set_ne (by exact h1), hp_set_ne (by exact h0)]
  · exact ((((HB.out.setCell (p := ⟨w.heap.size, 3, none⟩) (Nat.le_refl _) _).setCell (p := ⟨w.heap.size + 1, 0, none⟩) (by simp) _).setCell (p := ⟨w.heap.size + 1, 1, none⟩) (by simp) _).setCell (p := ⟨w.heap.size + 1, 2, none⟩) (by simp) _).setCell (p := ⟨w.heap.size + 1, 3, none⟩) (by simp) _
end Go.Proofs.YtcaakiaenfkeaaaGreat.acca
/-
  An acceptor's Accept.
-/
namespace Go.Proofs.YtcaakiaenfkeaaaGreat.accb
open Go.ChangeShapes Go.WideShapes Go.ChangeAt Go.RowKit
open Go.Proofs.YtcaakiaenfkeaaaGreat.kit Go.Proofs.YtcaakiaenfkeaaaGreat.mapkit Go.Proofs.YtcaakiaenfkeaaaGreat.byt Go.Proofs.YtcaakiaenfkeaaaGreat.own Go.Proofs.YtcaakiaenfkeaaaGreat.accd Go.Proofs.YtcaakiaenfkeaaaGreat.acca
set_option linter.unusedVariables false
set_option linter.unusedSimpArgs false
set_option maxHeartbeats 1000000
set_option maxRecDepth 100000

/-- What Accept answers. -/
def accE (r n first : Int) (v : V4) : Int :=
  if realB v.r v.n = false ∨ 2048 < v.l.length then 1 else if lessB v.r v.n r n = true then 90 else if v.s < first then 80 else if first + 16 ≤ v.s then 81 else 0
/-- What Accept leaves. -/
def Left (w' : World) (lo base b mb : Nat) (r n first : Int) (vs : List Vt) (v : Vt) : Prop :=
  if accE r n first (lv v) = 0 then ∃ v', lv v' = lv v ∧ (∀ g, v'.a = some ⟨g, 0, none⟩ → lo ≤ g) ∧ AccAt w' base b mb v.r v.n first (put vs v') else AccAt w' base b mb r n first vs

theorem copied_b (w : World) (v : Vt) (h : Rd w v) : Calls Tryz.prog 52 #[.agg #[.int .i64 v.s, .int .i64 v.r, .int .i64 v.n, .slice v.a v.l.length v.c]] w fun e w' => ∃ a c, e = .returned (.agg #[.int .i64 v.s, .int .i64 v.r, .int .i64 v.n, .slice a v.l.length c]) ∧ accd.Body w' w.heap.size ⟨v.s, v.r, v.n, v.l, a, c⟩ ∧ Below w.heap.size w w' := by
  refine (copied_any w v h).mono ?_
  rintro e w' ⟨v', rfl, hl, hb, hbl⟩
  obtain ⟨s, r, n, l, a, c⟩ := v'
  simp only [lv, V4.mk.injEq] at hl
  obtain ⟨rfl, rfl, rfl, rfl⟩ := hl
  exact ⟨a, c, rfl, hb, hbl⟩
/-- Bytes are no part of an acceptor. -/
theorem acc_lie {w w' : World} {base b mb : Nat} {r n first : Int} {vs : List Vt} (h : AccAt w base b mb r n first vs) (hk : Keep (fun k => k = b ∨ k = mb) w w') {a : Option Addr} {l : List Nat} (hl : Lie w a (bcells l)) : Lie w' a (bcells l) := by
  rcases hl with hl | ⟨g, off, h1, h2, h3⟩
  · exact .inl hl
  · by_cases hz : l = []
    · exact .inl (by rw [hz]; rfl)
    · have hpos : 0 < l.length := List.length_pos_iff.2 hz
      have h0 := h3 0 (by rw [bcells_len]; exact hpos)
      rw [bcells_get hpos, Nat.add_zero] at h0
      refine .inr ⟨g, off, h1, Nat.lt_of_lt_of_le h2 hk.size, fun i hi => (hk.cell (p := ⟨g, off + i, none⟩) h2 (fun hx => ?_)).trans (h3 i hi)⟩
      rcases hx with hx | hx
      · have hx : g = b := hx
        subst hx
        rw [(kit.blk h.blk).1 off] at h0
        rcases off with _ | _ | _ | _ | off <;> simp at h0
      · have hx : g = mb := hx
        subst hx
        obtain ⟨es, cl, hm⟩ := h.map.obj
        simp [World.cell?, hm] at h0
theorem acc_rd {w w' : World} {base b mb : Nat} {r n first : Int} {vs : List Vt} (h : AccAt w base b mb r n first vs) (hk : Keep (fun k => k = b ∨ k = mb) w w') {v : Vt} (hr : Rd w v) : Rd w' v := ⟨acc_lie h hk hr.lie, hr.nil, hr.len⟩
/-- What a promise leaves. -/
theorem acc_promise {w : World} {base b mb : Nat} {r n first : Int} {vs : List Vt} (h : AccAt w base b mb r n first vs) (r' n' : Int) :
    AccAt ((w.setCell ⟨b, 0, none⟩ (.int .i64 r')).setCell ⟨b, 1, none⟩ (.int .i64 n')) base b mb r' n' first vs ∧ Keep (fun k => k = b ∨ k = mb) w ((w.setCell ⟨b, 0, none⟩ (.int .i64 r')).setCell ⟨b, 1, none⟩ (.int .i64 n')) := by
  have hk : Keep (fun k => k = b ∨ k = mb) w ((w.setCell ⟨b, 0, none⟩ (.int .i64 r')).setCell ⟨b, 1, none⟩ (.int .i64 n')) :=
    ((Keep.refl _ w).setCell (p := ⟨b, 0, none⟩) (.inr (.inl rfl)) _).setCell (p := ⟨b, 1, none⟩) (.inr (.inl rfl)) _
  have hne := h.ne
  exact ⟨⟨hp_set (hp_set h.blk 0 _) 1 _, (h.map.set (a := ⟨b, 0, none⟩) (fun e => hne e.symm) _).set (a := ⟨b, 1, none⟩) (fun e => hne e.symm) _, h.lo, h.ord, h.one, h.rng, h.fit, fun v hv => h.row hk (h.bodies v hv) (by decide)⟩, hk⟩
/-- What a stored vote leaves. -/
theorem acc_store {w7 w8 : World} {base b mb : Nat} {r n first : Int} {vs : List Vt} (h : AccAt w7 base b mb r n first vs) (v : Vt) (hm : MapAt w8 Tryz.prog 3 mb (accd.look (put vs v)) (put vs v).length) (hg : w7.grownBy w8 (some mb)) (hb : accd.Body w7 base v) (hl : v.l.length ≤ 2048) (hs : first ≤ v.s ∧ v.s < first + 16) :
    AccAt w8 base b mb r n first (put vs v) ∧ Keep (fun k => k = b ∨ k = mb) w7 w8 := by
  have hne := h.ne
  have hk : Keep (fun k => k = b ∨ k = mb) w7 w8 := ⟨hg.os, hg.tape, hg.output, hg.size, fun k hk hn => hg.block k hk (fun e => hn (.inr (Option.some.inj e)))⟩
  refine ⟨⟨(hg.block b (kit.blk h.blk).2.2 (fun e => hne (Option.some.inj e))).trans h.blk, hm, h.lo, put_ord v h.ord, h.one, fun x hx => ?_, fun x hx => ?_, fun x hx => ?_⟩, hk⟩
  all_goals rcases put_mem hx with rfl | hx
  · exact hs
  · exact h.rng x hx
  · exact hl
  · exact h.fit x hx
  · exact h.row hk hb (by decide)
  · exact h.row hk (h.bodies x hx) (by decide)

theorem accept_arg (w : World) (base b mb : Nat) (r n first : Int) (vs : List Vt) (v : Vt) (h : AccAt w base b mb r n first vs) (hv : realB v.r v.n = false ∨ 2048 < v.l.length) (hlen : v.l.length ≤ 9223372036854775807) :
    Calls Tryz.prog 32 #[.pointer (some ⟨b, 0, none⟩), v.val] w fun e w' => e = .returned (.int .i64 1) ∧ Below w.heap.size w w' := by
  obtain ⟨w1, hw1⟩ : ∃ w1 : World, w1 = w.alloc (.cells #[.int .i64 v.s, .int .i64 v.r, .int .i64 v.n, .slice v.a v.l.length v.c] 45) := ⟨_, rfl⟩
  have hb1 : Below w.heap.size w w1 := by rw [hw1]; exact below_new1 _ _
  have hn1 : w1.heap[w.heap.size]? = some (.cells #[.int .i64 v.s, .int .i64 v.r, .int .i64 v.n, .slice v.a v.l.length v.c] 45 (0, 0)) := by rw [hw1]; exact hp_alloc_new _ _
  have HW := Lib.hid hw1
  have HB1 := Lib.hid hb1
  have HN1 := Lib.hid hn1
  have HC := Lib.hid (real_any v.r v.n w1)
  obtain ⟨q0, q1, q2, q3, qz⟩ := blk4 hn1
  clear hw1 hb1 hn1 h
  simp only [Vt.val]
  by_cases hR : realB v.r v.n = false
  · rw [hR] at HC
    clear hR hv
    go_enter Tryz.func32, Tryz.ntmps32
    go_wp2_with fail
    rw [← HW.out]
    refine HC.out.mono ?_; rintro e w2 ⟨rfl, hb2⟩
    have HB2 := Lib.hid (below_step HB1.out hb2)
    clear hb2 HC
    go_wp2_with fail
    go_ret
    exact ⟨rfl, HB2.out⟩
  · have hl : 2048 < v.l.length := hv.resolve_left hR
    have hR' : realB v.r v.n = true := by simpa using hR
    rw [hR'] at HC
    clear hR hR' hv
    have t1 : decide ((2048 : Int) < (v.l.length : Int)) = true := decide_eq_true (by omega)
    have t2 : (2048 : Int) < (v.l.length : Int) := by omega
    go_enter Tryz.func32, Tryz.ntmps32
    go_wp2_with fail
    rw [← HW.out]
    refine HC.out.mono ?_; rintro e w2 ⟨rfl, hb2⟩
    have HB2 := Lib.hid (below_step HB1.out hb2)
    obtain ⟨p0, p1, p2, p3, pz⟩ := blk4 (hp_step HN1.out hb2)
    clear hb2 HC
    go_wp2_with fail
    go_ret
    exact ⟨rfl, HB2.out⟩

/-- From the test of the ballot on. -/
theorem accept_mid (w : World) (base b mb : Nat) (r n first : Int) (vs : List Vt) (v : Vt) (h : AccAt w base b mb r n first vs) (hbw : base ≤ w.heap.size) (hr : Rd w v) (hR : realB v.r v.n = true) (hl : v.l.length ≤ 2048) (hs1 : -9223372036854775808 ≤ v.s) (hs2 : v.s ≤ 9223372036854775807) :
    Calls Tryz.prog 32 #[.pointer (some ⟨b, 0, none⟩), v.val] w fun e w' => e = .returned (.int .i64 (accE r n first (lv v))) ∧ Left w' w.heap.size base b mb r n first vs v ∧ Keep (fun k => k = b ∨ k = mb) w w' := by
  obtain ⟨w1, hw1⟩ : ∃ w1 : World, w1 = w.alloc (.cells #[.int .i64 v.s, .int .i64 v.r, .int .i64 v.n, .slice v.a v.l.length v.c] 45) := ⟨_, rfl⟩
  have hb1 : Below w.heap.size w w1 := by rw [hw1]; exact below_new1 _ _
  have hn1 : w1.heap[w.heap.size]? = some (.cells #[.int .i64 v.s, .int .i64 v.r, .int .i64 v.n, .slice v.a v.l.length v.c] 45 (0, 0)) := by rw [hw1]; exact hp_alloc_new _ _
  have HW := Lib.hid hw1
  have HB1 := Lib.hid hb1
  have HN1 := Lib.hid hn1
  have HH := Lib.hid h
  have HRD := Lib.hid hr
  have hone := h.one
  have HC := Lib.hid (real_any v.r v.n w1)
  rw [hR] at HC
  obtain ⟨q0, q1, q2, q3, qz⟩ := blk4 hn1
  have hbz := (kit.blk h.blk).2.2
  have t1 : decide ((2048 : Int) < (v.l.length : Int)) = false := decide_eq_false (by omega)
  have t2 : ¬ (2048 : Int) < (v.l.length : Int) := by omega
  have hE : accE r n first (lv v) = if lessB v.r v.n r n = true then 90 else if v.s < first then 80 else if first + 16 ≤ v.s then 81 else 0 := by
    rw [accE, if_neg (by simp only [lv, hR]; simp; omega)]
    rfl
  have HE := Lib.hid hE
  clear hw1 hb1 hn1 h hE hr
  simp only [Vt.val]
  go_enter Tryz.func32, Tryz.ntmps32
  go_wp2_with fail
  rw [← HW.out]
  refine HC.out.mono ?_; rintro e w2 ⟨rfl, hb2⟩
  have hb02 := below_step HB1.out hb2
  have hA2 := HH.out.below hb02
  have HB2 := Lib.hid hb02
  have HN2 := Lib.hid (hp_step HN1.out hb2)
  have HA2 := Lib.hid hA2
  obtain ⟨p0, p1, p2, p3, pz⟩ := blk4 HN2.out
  obtain ⟨c0, c1, c2, c3, cz⟩ := blk4 hA2.blk
  have HC2 := Lib.hid (less_any v.r v.n r n w2.drew)
  clear hb2 HC hb02 hA2 q0 q1 q2 q3 qz
  go_wp2_with fail
  go_still_tail 6, (by kernel_rfl)
  change wpList _ _ _ _ _ w2.drew
  go_wp2_with fail
  refine HC2.out.mono ?_; rintro e w3 ⟨rfl, hb3⟩
  have hb03 := below_step HB2.out (below_step (below_drewN (Below.refl _ w2) 1) hb3)
  have hN3 := hp_step HN2.out (below_step (below_drewN (Below.refl _ w2) 1) hb3)
  have HB3 := Lib.hid hb03
  have HA3 := Lib.hid (HH.out.below hb03)
  have HN3 := Lib.hid hN3
  clear hb3 hb03 hN3 HC2 p0 p1 p2 p3 pz c0 c1 c2 c3 cz
  obtain ⟨p0, p1, p2, p3, pz⟩ := blk4 HN3.out
  obtain ⟨c0, c1, c2, c3, cz⟩ := blk4 HA3.out.blk
  by_cases hL : lessB v.r v.n r n = true
  · rw [hL]
    have hE : accE r n first (lv v) = 90 := by rw [HE.out, if_pos hL]
    go_wp2_with fail
    go_ret
    refine ⟨by rw [hE]; rfl, ?_, Keep.of_below HB3.out⟩
    rw [Left, hE, if_neg (by decide)]
    exact HA3.out
  · rw [show lessB v.r v.n r n = false by simpa using hL]
    go_wp2_with fail
    go_quiet (fail)
    obtain ⟨w4, hw4⟩ : ∃ w4 : World, w4 = w3.drewN nq := ⟨_, rfl⟩
    rw [← hw4]
    have hb4 : Below w.heap.size w w4 := by rw [hw4]; exact below_drewN HB3.out nq
    have HN4 : Hid (w4.heap[w.heap.size]? = some (.cells #[.int .i64 v.s, .int .i64 v.r, .int .i64 v.n, .slice v.a v.l.length v.c] 45 (0, 0))) := by rw [hw4]; exact HN3.out
    have HB4 := Lib.hid hb4
    have HA4 := Lib.hid (HH.out.below hb4)
    clear hw4 hb4 HN3 HA3 HB3 p0 p1 p2 p3 pz c0 c1 c2 c3 cz
    obtain ⟨p0, p1, p2, p3, pz⟩ := blk4 HN4.out
    obtain ⟨c0, c1, c2, c3, cz⟩ := blk4 HA4.out.blk
    by_cases h80 : v.s < first
    · have hE : accE r n first (lv v) = 80 := by rw [HE.out, if_neg hL, if_pos h80]
      have d80 : decide (v.s < first) = true := decide_eq_true h80
      go_wp2_with fail
      go_ret
      refine ⟨by rw [hE]; rfl, ?_, Keep.of_below HB4.out⟩
      rw [Left, hE, if_neg (by decide)]
      exact HA4.out
    · have d80 : decide (v.s < first) = false := decide_eq_false h80
      have hsub : IntKind.i64.wrap (v.s - first) = v.s - first := IntWalk.i64_in _ (by omega)
      go_wp2_with fail
      go_quiet (fail)
      obtain ⟨w5, hw5⟩ : ∃ w5 : World, w5 = w4.drewN nq := ⟨_, rfl⟩
      rw [← hw5]
      have hb5 : Below w.heap.size w w5 := by rw [hw5]; exact below_drewN HB4.out nq
      have HN5 : Hid (w5.heap[w.heap.size]? = some (.cells #[.int .i64 v.s, .int .i64 v.r, .int .i64 v.n, .slice v.a v.l.length v.c] 45 (0, 0))) := by rw [hw5]; exact HN4.out
      have HB5 := Lib.hid hb5
      have HA5 := Lib.hid (HH.out.below hb5)
      clear hw5 hb5 HN4 HA4 HB4 p0 p1 p2 p3 pz c0 c1 c2 c3 cz
      obtain ⟨p0, p1, p2, p3, pz⟩ := blk4 HN5.out
      obtain ⟨c0, c1, c2, c3, cz⟩ := blk4 HA5.out.blk
      obtain ⟨f0, f1, f2, f3⟩ := blk4f HA5.out.blk
      by_cases h81 : first + 16 ≤ v.s
      · have hE : accE r n first (lv v) = 81 := by rw [HE.out, if_neg hL, if_neg (by omega), if_pos h81]
        have d81 : decide ((16 : Int) ≤ v.s - first) = true := decide_eq_true (by omega)
        go_wp2_with fail
        go_ret
        refine ⟨by rw [hE]; rfl, ?_, Keep.of_below HB5.out⟩
        rw [Left, hE, if_neg (by decide)]
        exact HA5.out
      · have hE : accE r n first (lv v) = 0 := by rw [HE.out, if_neg hL, if_neg (by omega), if_neg h81]
        have d81 : decide ((16 : Int) ≤ v.s - first) = false := decide_eq_false (by omega)
        have hbne : w.heap.size ≠ b := by omega
        have hq := fun w => run_eql_map_nil (P := Tryz.prog) w 103 3 45 (some mb) Tryz.underlying103
        go_wp2_with fail
        obtain ⟨hA6, hk6⟩ := acc_promise HA5.out v.r v.n
        obtain ⟨w6, hw6⟩ : ∃ w6 : World, w6 = (w5.setCell ⟨b, 0, none⟩ (.int .i64 v.r)).setCell ⟨b, 1, none⟩ (.int .i64 v.n) := ⟨_, rfl⟩
        rw [← hw6] at hA6 hk6 ⊢
        have hn6 : w6.heap[w.heap.size]? = some (.cells #[.int .i64 v.s, .int .i64 v.r, .int .i64 v.n, .slice v.a v.l.length v.c] 45 (0, 0)) := by
          rw [hw6]; exact (hp_set_ne (by exact hbne)).trans ((hp_set_ne (by exact hbne)).trans HN5.out)
        have hk06 : Keep (fun k => k = b ∨ k = mb) w w6 := (Keep.of_below HB5.out).trans hk6
        have hrd6 : Rd w6 v := acc_rd HA5.out hk6 (HRD.out.below HB5.out)
        have hbd : Below w6.heap.size w6 w6.drew := below_drewN (Below.refl _ w6) 1
        have HCP := Lib.hid (copied_b w6.drew v (hrd6.below hbd))
        have HA6 := Lib.hid hA6
        have HN6 := Lib.hid hn6
        have HK6 := Lib.hid hk06
        have HBD := Lib.hid hbd
        obtain ⟨x0, x1, x2, x3, xz⟩ := blk4 hA6.blk
        obtain ⟨y0, y1, y2, y3, yz⟩ := blk4 hn6
        have hsz6 := hk06.size
        have hrg : first ≤ v.s ∧ v.s < first + 16 := ⟨by omega, by omega⟩
        clear p0 p1 p2 p3 pz c0 c1 c2 c3 cz f0 f1 f2 f3 hw6 hA6 hk6 hn6 hk06 hrd6 hbd
        go_region_held3 (fun w' => w'.cell? ⟨b, 3, none⟩ = some (.map (some mb)) ∧ w'.cell? ⟨w.heap.size, 0, none⟩ = some (.int .i64 v.s) ∧ w'.cell? ⟨w.heap.size, 1, none⟩ = some (.int .i64 v.r) ∧ w'.cell? ⟨w.heap.size, 2, none⟩ = some (.int .i64 v.n) ∧ w'.cell? ⟨w.heap.size, 3, none⟩ = some (.slice v.a v.l.length v.c)) (first | (exact ⟨x3, y0, y1, y2, y3⟩) | (exact ⟨z3, u0, u1, u2, u3⟩) | (exact ⟨s3, t0, t1, t2, t3⟩)) (first | (go_at_call 52; refine HCP.out.mono ?_; rintro e w7 ⟨a7, c7, rfl, hbd7, hb7⟩; have hb67 := below_step HBD.out hb7; have hA7 := HA6.out.below hb67; obtain ⟨z0, z1, z2, z3, zz⟩ := blk4 hA7.blk; have hn7 := hp_step HN6.out hb67; obtain ⟨u0, u1, u2, u3, uz⟩ := blk4 hn7; obtain ⟨w8, hup, hm8, hg8⟩ := votes_store hA7.map hA7.ord hA7.len ⟨v.s, v.r, v.n, v.l, a7, c7⟩ hs1 hs2; obtain ⟨hA8, hk78⟩ := acc_store hA7 ⟨v.s, v.r, v.n, v.l, a7, c7⟩ hm8 hg8 (own_mono hbd7 (Nat.le_trans hbw hsz6)) hl hrg; obtain ⟨s0, s1, s2, s3, sz⟩ := blk4 hA8.blk; obtain ⟨t0, t1, t2, t3, tz⟩ := blk4 ((hg8.block w.heap.size uz (fun e => by have := HH.out.map.lt; have := Option.some.inj e; omega)).trans hn7); have HA8 := Lib.hid hA8; have HFR := Lib.hid (fun g (hg : a7 = some ⟨g, 0, none⟩) => Nat.le_trans hsz6 (own_from hbd7 g hg).1); have HK8 := Lib.hid ((HK6.out.trans (Keep.of_below hb67)).trans' hk78 (fun _ _ h => h)); simp only [Vt.val] at hup; clear hbd7 hb7 hb67 hA7 hn7 hm8 hg8 hA8 hk78))
        go_wp2_with fail
        go_ret
        refine ⟨by rw [hE]; rfl, ?_, HK8.out⟩
        rw [Left, hE, if_pos rfl]
        exact ⟨⟨v.s, v.r, v.n, v.l, a7, c7⟩, rfl, HFR.out, HA8.out⟩

/-- A vote that can be read, of whatever length. -/
structure Rd2 (w : World) (v : Vt) : Prop where
  lie : Lie w v.a (bcells v.l)
  nil : v.a = none → v.l.length = 0 ∧ v.c = 0
  len : v.l.length ≤ 9223372036854775807
theorem Rd2.below {w w' : World} {v : Vt} (h : Rd2 w v) (hb : Below w.heap.size w w') : Rd2 w' v := ⟨h.lie.below hb, h.nil, h.len⟩
theorem accept_at (w : World) (base b mb : Nat) (r n first : Int) (vs : List Vt) (v : Vt) (h : AccAt w base b mb r n first vs) (hbw : base ≤ w.heap.size) (hr : Rd2 w v) (hs1 : -9223372036854775808 ≤ v.s) (hs2 : v.s ≤ 9223372036854775807) :
    Calls Tryz.prog 32 #[.pointer (some ⟨b, 0, none⟩), v.val] w fun e w' => e = .returned (.int .i64 (accE r n first (lv v))) ∧ Left w' w.heap.size base b mb r n first vs v ∧ Keep (fun k => k = b ∨ k = mb) w w' := by
  by_cases hx : realB v.r v.n = false ∨ 2048 < v.l.length
  · refine (accept_arg w base b mb r n first vs v h hx hr.len).mono ?_
    rintro e w' ⟨rfl, hb⟩
    have hE : accE r n first (lv v) = 1 := by rw [accE]; exact if_pos hx
    refine ⟨by rw [hE], ?_, Keep.of_below hb⟩
    rw [Left, hE, if_neg (by decide)]
    exact h.below hb
  · exact accept_mid w base b mb r n first vs v h hbw ⟨hr.lie, hr.nil, by omega⟩ (by cases hh : realB v.r v.n with
      | true => rfl
      | false => exact absurd (.inl hh) hx) (by omega) hs1 hs2
/-- An acceptor as data. -/
structure AS where
  r : Int
  n : Int
  first : Int
  vs : List V4
def put4 (vs : List V4) (v : V4) : List V4 := vs.filter (fun x => x.s < v.s) ++ v :: vs.filter (fun x => v.s < x.s)
theorem put_lv (vs : List Vt) (v : Vt) : (put vs v).map lv = put4 (vs.map lv) (lv v) := by
  rw [put, put4, List.map_append, List.map_cons, List.filter_map, List.filter_map]
  rfl
def AccIs (w : World) (base b mb : Nat) (A : AS) : Prop := ∃ vs, AccAt w base b mb A.r A.n A.first vs ∧ vs.map lv = A.vs
def accS (A : AS) (v : V4) : AS := if accE A.r A.n A.first v = 0 then ⟨v.r, v.n, A.first, put4 A.vs v⟩ else A
theorem AccIs.below {w w' : World} {base b mb : Nat} {A : AS} (h : AccIs w base b mb A) (hb : Below w.heap.size w w') : AccIs w' base b mb A := by
  obtain ⟨vs, h1, h2⟩ := h
  exact ⟨vs, h1.below hb, h2⟩
theorem accept_ok (w : World) (base b mb : Nat) (A : AS) (v : Vt) (h : AccIs w base b mb A) (hbw : base ≤ w.heap.size) (hr : Rd2 w v) (hs1 : -9223372036854775808 ≤ v.s) (hs2 : v.s ≤ 9223372036854775807) :
    Calls Tryz.prog 32 #[.pointer (some ⟨b, 0, none⟩), v.val] w fun e w' => e = .returned (.int .i64 (accE A.r A.n A.first (lv v))) ∧ AccIs w' base b mb (accS A (lv v)) ∧ Keep (fun k => k = b ∨ k = mb) w w' := by
  obtain ⟨vs, h1, h2⟩ := h
  refine (accept_at w base b mb _ _ _ vs v h1 hbw hr hs1 hs2).mono ?_
  rintro e w' ⟨rfl, hl, hk⟩
  refine ⟨rfl, ?_, hk⟩
  rw [Left] at hl
  rw [accS]
  split at hl
  · rename_i hE
    rw [if_pos hE]
    obtain ⟨v', hv, -, hA⟩ := hl
    refine ⟨put vs v', ?_, ?_⟩
    · show AccAt w' base b mb v.r v.n A.first (put vs v')
      exact hA
    · rw [put_lv, hv, h2]
  · rename_i hE
    rw [if_neg hE]
    exact ⟨vs, hl, h2⟩
/-- An acceptor that has nothing in the blocks N. -/
def AccOff (w : World) (base b mb : Nat) (A : AS) (N : Nat → Prop) : Prop := ∃ vs, AccAt w base b mb A.r A.n A.first vs ∧ vs.map lv = A.vs ∧ ∀ v ∈ vs, ∀ g, v.a = some ⟨g, 0, none⟩ → ¬ N g
theorem AccOff.is {w : World} {base b mb : Nat} {A : AS} {N : Nat → Prop} (h : AccOff w base b mb A N) : AccIs w base b mb A := by
  obtain ⟨vs, h1, h2, -⟩ := h
  exact ⟨vs, h1, h2⟩
theorem AccIs.off {w : World} {base b mb : Nat} {A : AS} {N : Nat → Prop} (h : AccIs w base b mb A) (hN : ∀ g, N g → w.heap.size ≤ g) : AccOff w base b mb A N := by
  obtain ⟨vs, h1, h2⟩ := h
  refine ⟨vs, h1, h2, fun v hv g hg hn => ?_⟩
  have := (own_from (h1.bodies v hv) g hg).2
  have := hN g hn
  omega
theorem AccOff.below {w w' : World} {base b mb : Nat} {A : AS} {N : Nat → Prop} (h : AccOff w base b mb A N) (hb : Below w.heap.size w w') : AccOff w' base b mb A N := by
  obtain ⟨vs, h1, h2, h3⟩ := h
  exact ⟨vs, h1.below hb, h2, h3⟩
theorem accept_off (w : World) (base b mb : Nat) (A : AS) (N : Nat → Prop) (v : Vt) (h : AccOff w base b mb A N) (hN : ∀ g, N g → g < w.heap.size) (hbw : base ≤ w.heap.size) (hr : Rd2 w v) (hs1 : -9223372036854775808 ≤ v.s) (hs2 : v.s ≤ 9223372036854775807) :
    Calls Tryz.prog 32 #[.pointer (some ⟨b, 0, none⟩), v.val] w fun e w' => e = .returned (.int .i64 (accE A.r A.n A.first (lv v))) ∧ AccOff w' base b mb (accS A (lv v)) N ∧ Keep (fun k => k = b ∨ k = mb) w w' := by
  obtain ⟨vs, h1, h2, h3⟩ := h
  refine (accept_at w base b mb _ _ _ vs v h1 hbw hr hs1 hs2).mono ?_
  rintro e w' ⟨rfl, hl, hk⟩
  refine ⟨rfl, ?_, hk⟩
  rw [Left] at hl
  rw [accS]
  split at hl
  · rename_i hE
    rw [if_pos hE]
    obtain ⟨v', hv, hf, hA⟩ := hl
    refine ⟨put vs v', ?_, ?_, fun x hx g hg hn => ?_⟩
    · show AccAt w' base b mb v.r v.n A.first (put vs v')
      exact hA
    · rw [put_lv, hv, h2]
    · rcases put_mem hx with rfl | hx
      · have := hf g hg
        have := hN g hn
        omega
      · exact h3 x hx g hg hn
  · rename_i hE
    rw [if_neg hE]
    exact ⟨vs, hl, h2, h3⟩
/-- A byte that the law writes. -/
theorem AccOff.put {w : World} {base b mb g : Nat} {A : AS} {cs : Array Value} (h : AccOff w base b mb A (fun k => k = g)) (hg : w.heap[g]? = some (.cells cs 5 (0, 0))) (k : Nat) (v : Value) : AccOff (w.setCell ⟨g, k, none⟩ v) base b mb A (fun k => k = g) := by
  obtain ⟨vs, h1, h2, h3⟩ := h
  have hk : ∀ j, j ≠ g → (w.setCell ⟨g, k, none⟩ v).heap[j]? = w.heap[j]? := fun j hj => hp_set_ne hj
  have hb : b ≠ g := by
    intro e
    have h := h1.blk
    rw [e, hg] at h
    simp at h
  obtain ⟨es, cl, hm⟩ := h1.map.obj
  have hmb : mb ≠ g := by
    intro e
    rw [e, hg] at hm
    simp at hm
  refine ⟨vs, ⟨(hk b hb).trans h1.blk, h1.map.set (a := ⟨g, k, none⟩) (fun e => hmb e) _, h1.lo, h1.ord, h1.one, h1.rng, h1.fit, fun x hx => own_kept (h1.bodies x hx) (fun j hj => hk j (fun e => h3 x hx j hj e))⟩, h2, h3⟩
end Go.Proofs.YtcaakiaenfkeaaaGreat.accb
