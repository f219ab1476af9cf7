/-
  The document's Right.
-/
import Derived.Test.YtodoncmielfbeaaChR
namespace Go.Proofs.Ytodoncmielfbeaa.chrr
open Go.ChangeShapes Go.WideShapes Go.ChangeAt Go.RowKit
open Go.Proofs.Ytodoncmielfbeaa.kit Go.Proofs.Ytodoncmielfbeaa.mapkit Go.Proofs.Ytodoncmielfbeaa.byt Go.Proofs.Ytodoncmielfbeaa.own Go.Proofs.Ytodoncmielfbeaa.accd Go.Proofs.Ytodoncmielfbeaa.chd Go.Proofs.Ytodoncmielfbeaa.chb Go.Proofs.Ytodoncmielfbeaa.chr
open Go.Proofs.Ytodoncmielfbeaa.bal (knownB)
set_option linter.unusedVariables false
set_option linter.unusedSimpArgs false
set_option maxHeartbeats 1000000
set_option maxRecDepth 100000

theorem rright_out (w : World) (nodes : Int) (v : Value) (hn : knownB nodes = false) : Calls Try.prog 14 #[.int .i64 nodes, v] w fun e w' => e = .returned (.bool false) ∧ Below w.heap.size w w' := by
  have HN := Lib.hid (nodes_any nodes w)
  rw [hn] at HN
  clear hn
  go_enter Try.func14, Try.ntmps14
  go_wp2_with fail
  refine HN.out.mono ?_; rintro e w1 ⟨rfl, rfl⟩
  go_wp2_with fail
  go_ret
  exact ⟨rfl, Below.refl _ _⟩

theorem rright_in (w : World) (nodes : Int) (a : Option Addr) (c : Nat) (l : List Pt) (h : RowP w a l) (hk : knownB nodes = true) :
    Calls Try.prog 14 #[.int .i64 nodes, .slice a l.length c] w fun e w' => e = .returned (.bool (rightB nodes (l.map pv))) ∧ Below w.heap.size w w' := by
  have hn : 1 ≤ nodes ∧ nodes ≤ 5 := by simpa [knownB] using hk
  obtain ⟨hn1, hn5⟩ := hn
  have hll := h.len
  have HH := Lib.hid (fun (wr : World) (hb : Below w.heap.size w wr) => h.below hb)
  have HN := Lib.hid (nodes_any nodes w)
  rw [hk] at HN
  clear h hk
  go_enter Try.func14, Try.ntmps14
  go_wp2_with fail
  refine HN.out.mono ?_; rintro e w1 ⟨rfl, rfl⟩
  clear HN
  go_wp2_with fail
  go_loopw [5] (fun i wr => ∃ k : Nat, k ≤ l.length ∧ i = .int .i64 k ∧ Hid (Below w.heap.size w wr) ∧ Hid (RightTo nodes ((l.take k).map pv)))
    (fun i _ => l.length - (intOf i).toNat)
  case atStart => exact ⟨0, Nat.zero_le _, rfl, Below.refl _ _, rightTo_nil _⟩
  case round =>
    obtain ⟨k, hk, rfl, HB, HG⟩ := hrel
    by_cases hlt : k < l.length
    · have hP := HH.out wr HB.out
      obtain ⟨g, off, rfl, hgz, x0, x1⟩ := hP.cells k hlt
      have HX := Lib.hid (fun (wx : World) (hb : Below w.heap.size w wx) => (HH.out wx hb).cells k hlt)
      have hgp := fun (wx : World) (hb : Below w.heap.size w wx) => (HH.out wx hb).good _ (List.getElem_mem hlt)
      have hbad : ¬ RightTo nodes ((l.take (k + 1)).map pv) → rightB nodes (l.map pv) = false := by
        rw [List.map_take]; exact right_not
      have hsn := pv_take l k hlt
      obtain ⟨p, hp⟩ : ∃ p, p = l[k] := ⟨_, rfl⟩
      rw [← hp] at x0 x1 hgp hsn HX
      rw [hsn, rightTo_snoc] at hbad
      obtain ⟨pn, pvs, pa, pc⟩ := p
      dsimp only at x0 x1 HX
      have HBAD := Lib.hid hbad
      have HSN := Lib.hid hsn
      have HGP := Lib.hid hgp
      have hpl : pvs.length ≤ 2932031007402 := (hgp wr HB.out).row.len
      clear hP hgp hbad hsn hp
      go_upto_region 6 with fail
      by_cases c1 : pn < 1
      · have t1 : decide (pn < 1) = true := decide_eq_true c1
        go_wp2_with fail
        go_ret
        exact ⟨by rw [HBAD.out (fun h => by have := prOk_iff.1 h.2.1; simp only [pv, List.length_map] at this; omega)]; rfl, HB.out⟩
      have t1 : decide (pn < 1) = false := decide_eq_false c1
      by_cases c2 : nodes < pn
      · have t2 : decide (nodes < pn) = true := decide_eq_true c2
        go_wp2_with fail
        go_ret
        exact ⟨by rw [HBAD.out (fun h => by have := prOk_iff.1 h.2.1; simp only [pv, List.length_map] at this; omega)]; rfl, HB.out⟩
      have t2 : decide (nodes < pn) = false := decide_eq_false c2
      by_cases c4 : 16 < pvs.length
      · have t4 : decide ((16 : Int) < (pvs.length : Int)) = true := decide_eq_true (by omega)
        have t4' : (16 : Int) < (pvs.length : Int) := by omega
        go_wp2_with fail
        go_ret
        exact ⟨by rw [HBAD.out (fun h => by have := prOk_iff.1 h.2.1; simp only [pv, List.length_map] at this; omega)]; rfl, HB.out⟩
      have t4 : decide ((16 : Int) < (pvs.length : Int)) = false := decide_eq_false (by omega)
      have t4' : ¬ (16 : Int) < (pvs.length : Int) := by omega
      go_upto_region 9 with fail
      clear x0 x1
      have hkm : k ≤ 9223372036854775807 := by omega
      go_loopw [6] (fun q wo => ∃ m : Nat, m ≤ k ∧ q = .int .i64 m ∧ Hid (Below w.heap.size w wo) ∧ Hid (∀ q ∈ (l.take m).map pv, q.node ≠ pn))
        (fun q _ => k - (intOf q).toNat)
      case atStart => exact ⟨0, Nat.zero_le _, rfl, HB, by simp [Hid]⟩
      case round =>
        obtain ⟨wo, rfl⟩ : ∃ wo : World, wo = wr := ⟨_, rfl⟩
        obtain ⟨m, hm, rfl, HBo, HNo⟩ := hrel
        by_cases hmk : m < k
        · obtain ⟨g1, off1, e1, hgz1, x0, -⟩ := HX.out wo HBo.out
          obtain ⟨g2, off2, e2, -, z0, -⟩ := (HH.out wo HBo.out).cells m (by omega)
          rw [e1] at e2
          simp only [Option.some.injEq, Addr.mk.injEq, and_true] at e1 e2
          obtain ⟨rfl, rfl⟩ := e1
          obtain ⟨rfl, rfl⟩ := e2
          have hmn := pv_take l m (by omega)
          have hml : m < l.length := by omega
          obtain ⟨u, hu⟩ : ∃ u, u = l[m] := ⟨_, rfl⟩
          rw [← hu] at z0 hmn
          have HMN := Lib.hid hmn
          have HMEM : Hid (pv u ∈ (l.take k).map pv) := by
            simp only [Hid]
            rw [hu]
            refine List.mem_map_of_mem ?_
            have h1 : m < (l.take k).length := by rw [List.length_take]; omega
            have h2 : (l.take k)[m] = l[m] := by simp
            rw [← h2]; exact List.getElem_mem h1
          obtain ⟨un, uvs, ua, uc⟩ := u
          dsimp only at z0
          clear hmn hu
          by_cases e : un = pn
          · subst e
            have HNN : Hid (rightB nodes (l.map pv) = false) := HBAD.out (fun h => h.2.2 _ HMEM.out rfl)
            go_wp2_with fail
            go_quiet (fail)
            go_wp2_with fail
            go_ret
            exact ⟨by rw [HNN.out]; rfl, below_step HBo.out (below_drewN (Below.refl _ wo) _)⟩
          · have t5 : (un == pn) = false := by simpa using e
            have HBd := Lib.hid (fun n => below_step HBo.out (below_drewN (Below.refl _ wo) n))
            go_wp2_with fail
            go_quiet (fail)
            go_wp2_with fail
            go_roundw
            case rel => exact ⟨m + 1, by omega, by go_num, HBd.out _, by
              simp only [Hid]
              rw [HMN.out]
              intro q hq
              rcases List.mem_append.1 hq with hq | hq
              · exact HNo.out q hq
              · rw [List.mem_singleton.1 hq]; exact e⟩
            case measure => simp [intOf]; omega
        · obtain rfl : m = k := by omega
          have HNN := Lib.hid HNo.out
          obtain ⟨g1, off1, e1, hgz1, x0, x1⟩ := HX.out wo HBo.out
          simp only [Option.some.injEq, Addr.mk.injEq, and_true] at e1
          obtain ⟨rfl, rfl⟩ := e1
          have HB6 := Lib.hid HBo.out
          clear HBo HNo
          go_upto_region 15 with fail
          clear x0 x1 
          go_loopw [7, 8] (fun q j wo => ∃ m' : Nat, m' ≤ pvs.length ∧ j = .int .i64 m' ∧ q = .int .i64 (lastF 0 ((pvs.take m').map vv)) ∧ Hid (Below w.heap.size w wo) ∧ Hid (chp.lastOk nodes 0 ((pvs.take m').map vv) = true))
            (fun _ j _ => pvs.length - (intOf j).toNat)
          case atStart => exact ⟨0, Nat.zero_le _, rfl, rfl, HB6, rfl⟩
          case round =>
            obtain ⟨wo, rfl⟩ : ∃ wo : World, wo = wr := ⟨_, rfl⟩
            obtain ⟨m', hm', rfl, rfl, HBo, HLo⟩ := hrel
            obtain ⟨g1, off1, e1, hgz1, x0, x1⟩ := HX.out wo HBo.out
            simp only [Option.some.injEq, Addr.mk.injEq, and_true] at e1
            obtain ⟨rfl, rfl⟩ := e1
            by_cases hmt : m' < pvs.length
            · have hR := (HGP.out wo HBo.out).row
              obtain ⟨g2, off2, rfl, hgz2, v0, v1, v2, v3⟩ := hR.cells m' hmt
              have hvs := vv_take pvs m' hmt
              have hbad2 : ¬ chp.lastOk nodes 0 ((pvs.take (m' + 1)).map vv) = true → rightB nodes (l.map pv) = false := by
                intro hno
                refine HBAD.out (fun h => hno ?_)
                have h2 := (prOk_iff.1 h.2.1).2.2
                rw [List.map_take]
                exact lastOk_take _ h2
              rw [hvs, lastOk_snoc] at hbad2
              have hlf : lastF 0 ((pvs.take (m' + 1)).map vv) = pvs[m'].s := by rw [hvs, lastF_snoc]; rfl
              have hlo : voteOk nodes (lastF 0 ((pvs.take m').map vv)) (vv pvs[m']) = true → chp.lastOk nodes 0 ((pvs.take (m' + 1)).map vv) = true := by
                intro h
                rw [hvs, lastOk_snoc, HLo.out, h]; rfl
              obtain ⟨v, hv⟩ : ∃ v, v = pvs[m'] := ⟨_, rfl⟩
              rw [← hv] at v0 v1 v2 v3 hbad2 hlf hlo
              obtain ⟨q, hq⟩ : ∃ q, q = lastF 0 ((pvs.take m').map vv) := ⟨_, rfl⟩
              rw [← hq] at hbad2 hlo ⊢
              have HBAD2 : Hid (¬ voteOk nodes q (vv v) = true → rightB nodes (l.map pv) = false) := fun h => hbad2 (by rw [HLo.out]; simpa using h)
              have HLF := Lib.hid hlf
              have HLO := Lib.hid hlo
              obtain ⟨w7, hw7⟩ : ∃ w7, w7 = wo.alloc (.cells #[.int .i64 v.s, .int .i64 v.r, .int .i64 v.n, .slice v.a v.l.length v.c] 45) := ⟨_, rfl⟩
              have hn7 : w7.heap[wo.heap.size]? = some (.cells #[.int .i64 v.s, .int .i64 v.r, .int .i64 v.n, .slice v.a v.l.length v.c] 45 (0, 0)) := by rw [hw7]; exact hp_alloc_new _ _
              have hb7 : Below wo.heap.size wo w7 := by rw [hw7]; exact below_new1 _ _
              have HB7 := Lib.hid (below_step HBo.out hb7)
              have HW7 := Lib.hid hw7
              obtain ⟨mb, hmb⟩ : ∃ mb, mb = wo.heap.size := ⟨_, rfl⟩
              rw [← hmb] at hn7
              have HMB := Lib.hid hmb
              have HN7 := Lib.hid hn7
              obtain ⟨z0, z1, z2, z3, zz⟩ := blk4 hn7
              clear hR hvs hbad2 hlf hlo hv hq hw7 hn7 hb7 hmb
              go_upto_region 18 with fail
              rw [← HW7.out, ← HMB.out]
              clear HW7 HMB v0 v1 v2 v3 x0 x1
              by_cases c5 : v.s ≤ q
              · have t5 : decide (v.s ≤ q) = true := decide_eq_true c5
                go_wp2_with fail
                go_ret
                exact ⟨by rw [HBAD2.out (fun h => by have := voteOk_pos h; omega)]; rfl, HB7.out⟩
              have t5 : decide (v.s ≤ q) = false := decide_eq_false c5
              by_cases c6 : 1099511627776 < v.s
              · have t6 : decide (1099511627776 < v.s) = true := decide_eq_true c6
                go_wp2_with fail
                go_ret
                exact ⟨by rw [HBAD2.out (fun h => by have := voteOk_pos h; omega)]; rfl, HB7.out⟩
              have t6 : decide (1099511627776 < v.s) = false := decide_eq_false c6
              have HM := Lib.hid (refMay_any v.r v.n nodes w7)
              have HVO := Lib.hid (voteOk_may (nodes := nodes) (q := q) (v := v) ⟨hn1, hn5⟩ (by omega) (by omega))
              cases hm7 : mayB v.r v.n nodes with
              | false =>
                rw [hm7] at HM
                have HMF := Lib.hid hm7
                clear hm7
                go_wp2_with fail
                refine HM.out.mono ?_; rintro e w8 ⟨rfl, hb8⟩
                have HB8 := Lib.hid (below_step HB7.out hb8)
                clear hb8 HM
                go_wp2_with fail
                go_ret
                exact ⟨by rw [HBAD2.out (by rw [HVO.out, HMF.out]; simp)]; rfl, HB8.out⟩
              | true =>
                rw [hm7] at HM
                have HMF := Lib.hid hm7
                clear hm7
                go_wp2_with fail
                refine HM.out.mono ?_; rintro e w8 ⟨rfl, hb8⟩
                have HB8 := Lib.hid (below_step HB7.out hb8)
                obtain ⟨u0, u1, u2, u3, uz⟩ := blk4 (hp_step HN7.out hb8)
                clear hb8 HM z0 z1 z2 z3 zz
                go_wp2_with fail
                go_roundw
                case rel => exact ⟨m' + 1, by omega, by go_num, by rw [HLF.out], HB8, HLO.out (by rw [HVO.out, HMF.out])⟩
                case measure => simp [intOf]; omega
            · obtain rfl : m' = pvs.length := by omega
              have HG' : Hid (RightTo nodes ((l.take (m + 1)).map pv)) := by
                have hL := HLo.out
                rw [List.take_length] at hL
                simp only [Hid]
                rw [HSN.out, rightTo_snoc]
                exact ⟨HG.out, prOk_iff.2 ⟨⟨by simp only [pv]; omega, by simp only [pv]; omega⟩, by simp only [pv, List.length_map]; omega, hL⟩, fun q hq => HNN.out q hq⟩
              go_wp2_with fail
              go_roundw
              case rel => exact ⟨m + 1, by omega, by go_num, HBo, HG'⟩
              case measure => simp [intOf]; omega
    · obtain rfl : k = l.length := by omega
      have HY : Hid (rightB nodes (l.map pv) = true) := by
        have := HG.out
        rw [List.take_length] at this
        exact right_yes ⟨hn1, hn5⟩ this
      go_wp2_with fail
      go_ret
      exact ⟨by rw [HY.out]; rfl, HB.out⟩
theorem rright_ok (w : World) (nodes : Int) (a : Option Addr) (c : Nat) (l : List Pt) (h : RowP w a l) :
    Calls Try.prog 14 #[.int .i64 nodes, .slice a l.length c] w fun e w' => e = .returned (.bool (rightB nodes (l.map pv))) ∧ Below w.heap.size w w' := by
  cases hk : knownB nodes with
  | true => exact rright_in w nodes a c l h hk
  | false =>
    have ho : nodes < 1 ∨ 5 < nodes := by simp [knownB] at hk; omega
    rw [right_nodes ho]
    exact rright_out w nodes _ hk
end Go.Proofs.Ytodoncmielfbeaa.chrr
