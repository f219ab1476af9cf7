/-
  ChooseKeeps: what is chosen by a majority's votes is what a new leader proposes, whoever's promises of a majority it has, as long as no vote of a greater ballot says otherwise.
-/
import Derived.Test.YtodoncmielfbeaaChKp
import Derived.Test.YtodoncmielfbeaaKit6
import Derived.Test.YtodoncmielfbeaaChecked
import Derived.Test.YtodoncmielfbeaaRows
namespace Go.Proofs.Ytodoncmielfbeaa.chooseKeeps
open Go.ChangeShapes Go.WideShapes Go.ChangeAt Go.RowKit Go.Joins
open Go.Proofs.Ytodoncmielfbeaa.kit Go.Proofs.Ytodoncmielfbeaa.mapkit Go.Proofs.Ytodoncmielfbeaa.byt Go.Proofs.Ytodoncmielfbeaa.own Go.Proofs.Ytodoncmielfbeaa.accd Go.Proofs.Ytodoncmielfbeaa.chd Go.Proofs.Ytodoncmielfbeaa.chb Go.Proofs.Ytodoncmielfbeaa.chr Go.Proofs.Ytodoncmielfbeaa.che Go.Proofs.Ytodoncmielfbeaa.chf Go.Proofs.Ytodoncmielfbeaa.chq Go.Proofs.Ytodoncmielfbeaa.cho Go.Proofs.Ytodoncmielfbeaa.chc Go.Proofs.Ytodoncmielfbeaa.chv Go.Proofs.Ytodoncmielfbeaa.chop Go.Proofs.Ytodoncmielfbeaa.chch Go.Proofs.Ytodoncmielfbeaa.chw Go.Proofs.Ytodoncmielfbeaa.cha Go.Proofs.Ytodoncmielfbeaa.cht Go.Proofs.Ytodoncmielfbeaa.chkp
set_option linter.unusedVariables false
set_option linter.unusedSimpArgs false
set_option maxHeartbeats 4000000
set_option maxRecDepth 100000

/-- Those that are not of a node. -/
def notOf (wo : Int) (l : List Pt) : List Pt := l.filter (fun p => decide (p.node ≠ wo))
theorem notOf_data (wo : Int) (l : List Pt) : (notOf wo l).map pv = (l.map pv).filter (fun p => decide (p.node ≠ wo)) := by
  unfold notOf
  rw [List.filter_map]
  rfl
theorem notOf_succ (wo : Int) (l : List Pt) (k : Nat) (h : k < l.length) : notOf wo (l.take (k + 1)) = notOf wo (l.take k) ++ if l[k].node ≠ wo then [l[k]] else [] := by
  unfold notOf
  rw [List.take_succ_eq_append_getElem h, List.filter_append]
  congr 1
  by_cases hh : l[k].node = wo <;> simp [List.filter, hh]
theorem notOf_row {w : World} {a : Option Addr} {l : List Pt} {wo : Int} (h : RowP w a l) {base c : Nat} {ab : Option Addr} (hr : w.ownsRow base 36 2 (.slice ab (notOf wo l).length c) (notOf wo l).length (pcells (notOf wo l))) : RowP w ab (notOf wo l) :=
  ⟨own_rows pcells_len hr, fun p hp => h.good p (List.mem_filter.1 hp).1, Nat.le_trans (List.length_filter_le _ _) h.len⟩
theorem chosen_right {nodes : Int} {L : List chp.Pr} (h : 0 < (chosenA nodes L).length) : chp.Right nodes L := by
  unfold chosenA at h
  by_cases hr : chp.Right nodes L
  · exact hr
  · rw [if_neg hr] at h; simp at h
theorem any_succ {cs : List Ct} {D : List (Int × chp.V)} (h : cs.map cvv = D) (P : Int × chp.V → Bool) (j : Nat) (hj : j < cs.length) : (D.take (j + 1)).any P = ((D.take j).any P || P (cvv cs[j])) := by
  rw [hDj h j hj, List.any_append]; simp
theorem cnt_succ {cs : List Ct} {D : List (Int × chp.V)} (h : cs.map cvv = D) (P : Int × chp.V → Bool) (j : Nat) (hj : j < cs.length) : ((D.take (j + 1)).filter P).length = ((D.take j).filter P).length + if P (cvv cs[j]) then 1 else 0 := by
  rw [hDj h j hj, List.filter_append, List.length_append]
  congr 1
  cases hh : P (cvv cs[j]) <;> simp [List.filter, hh]

theorem keeps_ok (w : World) (nodes : Int) (a : Option Addr) (c : Nat) (l : List Pt) (wo : Int) (h : RowP w a l) :
    Calls Try.prog 4 #[.int .i64 nodes, .slice a l.length c, .int .i64 wo] w fun e w' => e = .returned (.bool true) ∧ Below w.heap.size w w' := by
  obtain ⟨j0, hj, hy0, hy1, hy2⟩ := info_parts infoProm
  have HL := Lib.hid (fun (wr : World) (hb : Below w.heap.size w wr) => h.below hb)
  have hll := h.len
  have HA := Lib.hid (awake_ok w)
  have HCL := Lib.hid (chosenA_len nodes l)
  clear h
  go_enter Try.func4, Try.ntmps4
  go_wp2_with fail
  refine HA.out.mono ?_; rintro e w1 ⟨rfl, hb1⟩
  have HB1 := Lib.hid hb1
  have HO := Lib.hid (own_ok w1 a c l (HL.out w1 hb1))
  clear hb1 HA
  go_wp2_with fail
  refine HO.out.mono ?_; rintro e w2 ⟨a2, c2, qs, rfl, hq, hrow2, hb2⟩
  have hql : qs.length = l.length := by have h := congrArg List.length hq; rw [List.length_map, List.length_map] at h; exact h
  have HX := Lib.hid (chosen_ok w2 nodes a2 c2 qs (hrow2.rowP (by omega)))
  rw [hq] at HX
  have HB2 := Lib.hid (below_step HB1.out hb2)
  clear hq hrow2 hb2 hql HO
  go_wp2_with fail
  refine HX.out.mono ?_; rintro e w3 ⟨ac, cc, ec, rfl, hoc, hb3⟩
  have HB3 := Lib.hid (below_step HB2.out hb3)
  have HOC := Lib.hid hoc
  clear hoc hb3 HX
  go_wp2_with fail
  go_loopw [8, 9] (fun o i wr => ∃ (k : Nat) (ab : Option Addr) (cb : Nat), k ≤ l.length ∧ i = .int .i64 k ∧ o = .slice ab (notOf wo (l.take k)).length cb ∧ Hid (wr.ownsRow w3.heap.size 36 2 (.slice ab (notOf wo (l.take k)).length cb) (notOf wo (l.take k)).length (pcells (notOf wo (l.take k)))) ∧ Hid (Below w3.heap.size w3 wr)) (fun _ i _ => l.length - (RowKit.intOf i).toNat)
  case atStart => exact ⟨0, none, 0, Nat.zero_le _, rfl, rfl, World.ownsRow_nil _ _ _ _, Below.refl _ _⟩
  case round =>
    obtain ⟨k, ab, cb, hk, rfl, rfl, HO, HB⟩ := hrel
    have hnl : (notOf wo (l.take k)).length ≤ k := by
      unfold notOf
      refine Nat.le_trans (List.length_filter_le _ _) ?_
      rw [List.length_take]; omega
    by_cases hlt : k < l.length
    · obtain ⟨g, off, rfl, hgz, x0, x1⟩ := (HL.out wr (below_step HB3.out HB.out)).cells k hlt
      have hns := notOf_succ wo l k hlt
      obtain ⟨p, hp⟩ : ∃ p, p = l[k] := ⟨_, rfl⟩
      rw [← hp] at x0 x1 hns
      have HNS := Lib.hid hns
      obtain ⟨N, hN⟩ : ∃ N, N = notOf wo (l.take k) := ⟨_, rfl⟩
      rw [← hN] at HNS HO hnl ⊢
      have hsz := HB.out.size
      have hlm : l.length ≤ 9223372036854775807 := by omega
      clear hp hns hN
      by_cases hnw : p.node = wo
      · have t1 : (p.node != wo) = false := by simp [hnw]
        rw [if_neg (by simp [hnw]), List.append_nil] at HNS
        clear hnw
        go_wp2_with fail
        go_roundw
        case rel => exact ⟨k + 1, ab, cb, by omega, by go_num, by rw [HNS.out], by rw [HNS.out]; exact HO, HB⟩
        case measure => simp [RowKit.intOf]; omega
      · have t1 : (p.node != wo) = true := by simpa using hnw
        rw [if_pos hnw] at HNS
        have hpc : pcells (notOf wo (l.take (k + 1))) = pcells N ++ p.cells := by rw [HNS.out, pcells_snoc]
        have hnl2 : (notOf wo (l.take (k + 1))).length = N.length + 1 := by rw [HNS.out]; simp
        have HPC := Lib.hid hpc
        have HNL := Lib.hid hnl2
        clear hnw hpc hnl2
        go_wp2_with (at_builtin; refine wpl_append rfl (.tmp 39) (.tmp 44) 22 rfl w3.heap.size 36 j0 _ 2 32 Try.underlying22 hj hy0 hy1 hy2 rfl (by decide) _ N.length (pcells N) rfl (HO.out.alloc _) (some ⟨wr.heap.size, 0, none⟩) 1 1 p.cells rfl (by simp) rfl (lie_new2' _ _ _ _) (by simp [Pt.cells, Value.oneCell']) (by unfold maxLen; omega) (by omega) (by rw [size_new]; omega) ?_)
        intro v8 w8 hown hgr
        obtain ⟨a8, c8, rfl⟩ := own_shape hown
        rw [← HPC.out, ← HNL.out] at hown
        have HB8 : Hid (Below w3.heap.size w3 w8) := (below_step HB.out (below_new1 wr _)).grown hgr (by rw [size_new]; omega) (fun j hj => (HO.out.lt j hj).1)
        have HO8 := Lib.hid hown
        clear hown hgr
        go_wp2_with fail
        go_roundw
        case rel => exact ⟨k + 1, a8, c8, by omega, by go_num, by rw [HNL.out], HO8, HB8⟩
        case measure => simp [RowKit.intOf]; omega
    · obtain rfl : k = l.length := by omega
      have htk : l.take l.length = l := List.take_length
      rw [htk] at HO hnl ⊢
      have hRB := notOf_row (HL.out wr (below_step HB3.out HB.out)) HO.out
      have HO4 := Lib.hid (own_ok wr ab cb (notOf wo l) hRB)
      have HOC4 := Lib.hid (HOC.out.below HB.out)
      have HB4 := Lib.hid (below_step HB3.out HB.out)
      have hnl4 : (notOf wo l).length ≤ 4398046511104 := hRB.len
      clear htk hRB HO HOC
      go_wp2_with fail
      refine HO4.out.mono ?_; rintro e w5 ⟨a5, c5, qm, rfl, hqm, hrow5, hb5⟩
      have hql : qm.length = (notOf wo l).length := by have h := congrArg List.length hqm; rw [List.length_map, List.length_map] at h; exact h
      have HX := Lib.hid (open_ok w5 nodes 1 a5 c5 qm (hrow5.rowP (by omega)))
      rw [hqm, notOf_data] at HX
      have HB5 := Lib.hid (below_step HB4.out hb5)
      have HOC5 := Lib.hid (HOC4.out.below hb5)
      obtain ⟨M, hM⟩ : ∃ M, M = (l.map pv).filter (fun p => decide (p.node ≠ wo)) := ⟨_, rfl⟩
      rw [← hM] at HX
      have HM := Lib.hid hM
      clear hqm hrow5 hb5 hql HO4 HOC4 hM
      go_wp2_with fail
      refine HX.out.mono ?_; rintro e w6 ⟨ao, co, eo, rfl, hoo, hb6⟩
      have HB6 := Lib.hid (below_step HB5.out hb6)
      have HOC6 := Lib.hid (HOC5.out.below hb6)
      have HOO := Lib.hid hoo
      have HOLM := Lib.hid (openL_len nodes 1 M)
      clear hoo hb6 HX HOC5
      by_cases hz : openE nodes 1 M = 0
      case neg =>
        have heo : eo.length = 0 := by rw [HOO.out.size]; unfold openL; rw [if_neg hz]; rfl
        have t1 : (openE nodes 1 M != 0) = true := by simpa using hz
        have t2 : ((eo.length : Int) == 0) = true := by simp [heo]
        have HEO := Lib.hid heo
        clear hz heo
        go_wp2_with fail
        go_ret
        exact ⟨by simp [HEO.out], HB6.out⟩
      case pos =>
        have t1 : (openE nodes 1 M != 0) = false := by simp [hz]
        have HZ := Lib.hid hz
        rw [hz]
        have hel : ec.length ≤ 1024 := by rw [HOC6.out.size]; exact HCL.out
        have heo : eo.length = openN 1 M := by rw [HOO.out.size]; unfold openL; rw [if_pos HZ.out, ents_len]
        have hol : eo.length ≤ 1024 := by rw [HOO.out.size]; exact HOLM.out
        have HEO := Lib.hid heo
        clear hz heo
        go_wp2_with fail
        go_loopw [12] (fun i wr => ∃ k : Nat, k ≤ ec.length ∧ i = .int .i64 k ∧ Hid (Below w6.heap.size w6 wr)) (fun i _ => ec.length - (RowKit.intOf i).toNat)
        case atStart => exact ⟨0, Nat.zero_le _, rfl, Below.refl _ _⟩
        case round =>
          obtain ⟨wk, rfl⟩ : ∃ wk : World, wk = wr := ⟨_, rfl⟩
          obtain ⟨k, hk, rfl, HB⟩ := hrel
          by_cases hlt : k < ec.length
          · have hRow := out_row (HOC6.out.below HB.out) HCL.out
            obtain ⟨g, off, hac, hgz, x0, x1⟩ := hRow.cells k hlt
            obtain ⟨hcl, hcnil, hcln⟩ := hRow.lie _ (List.getElem_mem hlt)
            have hRt : chp.Right nodes (l.map pv) := chosen_right (by rw [← HOC6.out.size]; omega)
            obtain ⟨hl5, h16⟩ := right_size hRt
            have hin : (le ec[k]) ∈ chosenA nodes (l.map pv) := by rw [← HOC6.out.data]; exact List.mem_map_of_mem (List.getElem_mem hlt)
            have hsr : 1 ≤ ec[k].s ∧ ec[k].s ≤ 1099511627776 := by
              unfold chosenA at hin
              rw [if_pos hRt] at hin
              obtain ⟨s, hs, he⟩ := List.mem_filterMap.1 hin
              unfold chS at he
              split at he
              · simp at he
              · simp only [Option.some.injEq] at he
                have h1 : (le ec[k]).1 = s := by rw [← he]
                have := slots_range hRt (slots_of _) s hs
                have h2 : ec[k].s = s := h1
                omega
            obtain ⟨e, he⟩ : ∃ e, e = ec[k] := ⟨_, rfl⟩
            rw [← he] at x0 x1 hcl hcnil hcln hsr
            obtain ⟨s, cl, ca, cd⟩ := e
            dsimp only at x0 x1 hcl hcnil hcln hsr
            obtain ⟨w7, hw7⟩ : ∃ w7, w7 = wk.alloc (.cells #[.int .i64 s, .slice ca cl.length cd] 39) := ⟨_, rfl⟩
            have hn7 : w7.heap[wk.heap.size]? = some (.cells #[.int .i64 s, .slice ca cl.length cd] 39 (0, 0)) := by rw [hw7]; exact hp_alloc_new _ _
            have hb7 : Below wk.heap.size wk w7 := by rw [hw7]; exact below_new1 _ _
            obtain ⟨cb, hcb⟩ : ∃ cb, cb = wk.heap.size := ⟨_, rfl⟩
            rw [← hcb] at hn7
            have hb67 : Below w6.heap.size w6 w7 := below_step HB.out hb7
            have HF := Lib.hid (for_ok w7 s a c l (HL.out w7 (below_step HB6.out hb67)) hl5 h16)
            have HRt := Lib.hid hRt
            have HCLI := Lib.hid (fun (wx : World) (hb : Below w7.heap.size w7 wx) => (hcl.below hb7).below hb)
            have HB67 := Lib.hid hb67
            have HN7 := Lib.hid hn7
            have HW7 := Lib.hid hw7
            have HCB := Lib.hid hcb
            obtain ⟨y0, y1, fy0, fy1, yz⟩ := blk2 hn7
            have hem : ec.length ≤ 9223372036854775807 := by omega
            obtain rfl : ac = some ⟨g, off, none⟩ := hac
            clear hRow hcl hRt hin he hw7 hn7 hb7 hcb hb67
            go_upto_region 17 with fail
            rw [← HW7.out, ← HCB.out]
            clear x0 x1 HW7 hgz
            go_wp2_with fail
            refine HF.out.mono ?_; rintro e w8 ⟨a3, c3, cs, rfl, hrk, hdat, hc400, hmem, hb8⟩
            obtain ⟨D, hD⟩ : ∃ D, D = chp.forS (l.map pv) s := ⟨_, rfl⟩
            have HD := Lib.hid hD
            have HDAT := Lib.hid (show cs.map cvv = D by rw [hD]; exact hdat)
            have HROW := Lib.hid hrk.row
            have HMEM := Lib.hid hmem
            have HB8 := Lib.hid (below_step HB67.out hb8)
            have HB78 := Lib.hid hb8
            have hdl : D.length = cs.length := by rw [← HDAT.out, List.length_map]
            have HDL := Lib.hid hdl
            clear hrk hdat hmem hb8 hD HF y0 y1 fy0 fy1 yz hdl
            go_wp2_with fail
            go_loopw [14, 16] (fun t i wm => ∃ m : Nat, m ≤ cs.length ∧ i = .int .i64 m ∧ t = .bool ((D.take m).any (lastP nodes D cl)) ∧ Hid (Below w8.heap.size w8 wm)) (fun _ i _ => cs.length - (RowKit.intOf i).toNat)
            case atStart => exact ⟨0, Nat.zero_le _, rfl, rfl, Below.refl _ _⟩
            case round =>
              obtain ⟨wm, rfl⟩ : ∃ wm : World, wm = wr := ⟨_, rfl⟩
              obtain ⟨m, hm, rfl, rfl, HBM⟩ := hrel
              have HRK := Lib.hid (fun (wx : World) (hb : Below w8.heap.size w8 wx) (j : Nat) (hj : j < cs.length) => che.RowK.cells (⟨own_below HROW.out hb, fun x hx => by
                obtain ⟨p, hp, hv⟩ := HMEM.out x hx
                exact ((HL.out wx (below_step HB6.out (below_step HB8.out hb))).good p hp).row.good _ hv⟩ : che.RowK wx w7.heap.size 47 a3 c3 cs) hj)
              have HRD := Lib.hid (fun (wx : World) (hb : Below w8.heap.size w8 wx) (x : Ct) (hx : x ∈ cs) => (by
                obtain ⟨p, hp, hv⟩ := HMEM.out x hx
                exact ((HL.out wx (below_step HB6.out (below_step HB8.out hb))).good p hp).row.good _ hv : Rd wx x.2))
              by_cases hmt : m < cs.length
              · obtain ⟨g, ha3, -, -, -⟩ := HRK.out wm HBM.out m hmt
                have has := any_succ HDAT.out (lastP nodes D cl) m hmt
                have hxm := List.getElem_mem hmt
                obtain ⟨x, hx⟩ : ∃ x, x = cs[m] := ⟨_, rfl⟩
                have HXC : Hid (∀ (wx : World), Below w8.heap.size w8 wx → wx.cell? ⟨g, m * 5 + 2, none⟩ = some (.int .i64 x.2.r) ∧ wx.cell? ⟨g, m * 5 + 3, none⟩ = some (.int .i64 x.2.n) ∧ wx.cell? ⟨g, m * 5 + 4, none⟩ = some (.slice x.2.a x.2.l.length x.2.c) ∧ g < wx.heap.size) := by
                  intro wx hb
                  obtain ⟨g', e', q0, q1, q2, q3, q4, q5, q6⟩ := HRK.out wx hb m hmt
                  rw [ha3] at e'
                  simp only [Option.some.injEq, Addr.mk.injEq, and_true] at e'
                  subst e'
                  rw [← hx] at q4 q5 q6
                  exact ⟨q4, q5, q6, q0⟩
                rw [← hx] at has hxm
                obtain ⟨xn, xv⟩ := x
                have HAS := Lib.hid has
                have HXM := Lib.hid hxm
                clear has hxm hx
                obtain rfl : a3 = some ⟨g, 0, none⟩ := ha3
                go_wp2_with fail
                go_loopw [17, 18, 19] (fun n ab i wj => ∃ j : Nat, j ≤ cs.length ∧ i = .int .i64 j ∧ n = .int .i64 (((D.take j).filter (fun y => balE (cvv (xn, xv)) y && y.2.d == cl)).length : Nat) ∧ ab = .bool ((D.take j).any (abv1 (cvv (xn, xv)))) ∧ Hid (Below w8.heap.size w8 wj)) (fun _ _ i _ => cs.length - (RowKit.intOf i).toNat)
                case atStart => exact ⟨0, Nat.zero_le _, rfl, rfl, rfl, HBM⟩
                case round =>
                  obtain ⟨wj, rfl⟩ : ∃ wj : World, wj = wr := ⟨_, rfl⟩
                  obtain ⟨j, hj', rfl, rfl, rfl, HBJ⟩ := hrel
                  have hNl : ((D.take j).filter (fun y => balE (cvv (xn, xv)) y && y.2.d == cl)).length ≤ j := by
                    refine Nat.le_trans (List.length_filter_le _ _) ?_
                    rw [List.length_take]; omega
                  by_cases hjt : j < cs.length
                  · have hcs1 := cnt_succ HDAT.out (fun y => balE (cvv (xn, xv)) y && y.2.d == cl) j hjt
                    have has1 := any_succ HDAT.out (abv1 (cvv (xn, xv))) j hjt
                    have hym := List.getElem_mem hjt
                    obtain ⟨y, hy⟩ : ∃ y, y = cs[j] := ⟨_, rfl⟩
                    have HYC : Hid (∀ (wx : World), Below w8.heap.size w8 wx → wx.cell? ⟨g, j * 5 + 2, none⟩ = some (.int .i64 y.2.r) ∧ wx.cell? ⟨g, j * 5 + 3, none⟩ = some (.int .i64 y.2.n) ∧ wx.cell? ⟨g, j * 5 + 4, none⟩ = some (.slice y.2.a y.2.l.length y.2.c)) := by
                      intro wx hb
                      obtain ⟨g', e', q0, q1, q2, q3, q4, q5, q6⟩ := HRK.out wx hb j hjt
                      simp only [Option.some.injEq, Addr.mk.injEq, and_true] at e'
                      subst e'
                      rw [← hy] at q4 q5 q6
                      exact ⟨q4, q5, q6⟩
                    rw [← hy] at hcs1 has1 hym
                    obtain ⟨yn, yv⟩ := y
                    have hbal : balE (cvv (xn, xv)) (cvv (yn, yv)) = (yv.r == xv.r && yv.n == xv.n) := rfl
                    have habv : abv1 (cvv (xn, xv)) (cvv (yn, yv)) = (bal.lessB xv.r xv.n yv.r yv.n || ((yv.r == xv.r && yv.n == xv.n) && !(sameB yv.l xv.l))) := rfl
                    have hcv : ((cvv (yn, yv)).2.d == cl) = sameB yv.l cl := rfl
                    simp only [hbal, hcv] at hcs1
                    rw [habv] at has1
                    have HCS1 := Lib.hid hcs1
                    have HAS1 := Lib.hid has1
                    have HYM := Lib.hid hym
                    obtain ⟨N, hN⟩ : ∃ N, N = ((D.take j).filter (fun y => balE (cvv (xn, xv)) y && y.2.d == cl)).length := ⟨_, rfl⟩
                    rw [← hN] at hNl HCS1 ⊢
                    obtain ⟨AB, hAB⟩ : ∃ AB, AB = (D.take j).any (abv1 (cvv (xn, xv))) := ⟨_, rfl⟩
                    rw [← hAB] at HAS1 ⊢
                    clear hcs1 has1 hym hy hbal habv hcv hN hAB
                    go_upto_region 26 with fail
                    obtain ⟨BB, hBB⟩ : ∃ BB, BB = ((yv.r == xv.r && yv.n == xv.n) && sameB yv.l cl) := ⟨_, rfl⟩
                    have HBB0 := Lib.hid hBB
                    clear hBB
                    go_cut [107] from 78 to 156 (fun t wx => t = .bool BB ∧ Hid (Below w8.heap.size w8 wx))
                    case first => as_aux_lemma =>
                      obtain ⟨u2, u3, u4, hgj⟩ := HXC.out wj HBJ.out
                      obtain ⟨h2, h3, h4⟩ := HYC.out wj HBJ.out
                      dsimp only at u2 u3 u4 h2 h3 h4
                      have hb7j : Below w7.heap.size w7 wj := below_step HB78.out HBJ.out
                      obtain ⟨y0, y1, fy0, fy1, yz⟩ := blk2 (hp_step HN7.out hb7j)
                      have hrdy : Rd wj.drew yv := (HRD.out wj HBJ.out _ HYM.out).below (below_drewN (Below.refl _ wj) 1)
                      have hbd : Below wj.heap.size wj wj.drew := below_drewN (Below.refl _ wj) 1
                      have HCB2 := Lib.hid (bytes_any yv.l cl yv.a ca yv.c cd wj.drew (by have := hrdy.len; omega) hrdy.lie (HCLI.out wj.drew (below_step hb7j hbd)))
                      have HBd := Lib.hid (fun n => below_step HBJ.out (below_drewN (Below.refl _ wj) n))
                      have hbq := fun w => eqBallot w yv.r yv.n xv.r xv.n
                      have hcl9 : cs.length ≤ 9223372036854775807 := by omega
                      have hgd : g < wj.drew.heap.size := hgj
                      clear hrdy hb7j hbd
                      cases e2 : (yv.r == xv.r && yv.n == xv.n) with
                      | false =>
                        rw [e2] at hbq
                        have E2 := Lib.hid e2
                        clear e2
                        go_wp2_with fail
                        go_quiet (fail)
                        go_wp2_with fail
                        go_meet
                        case rel => exact ⟨by rw [HBB0.out, E2.out]; rfl, HBd.out _⟩
                      | true =>
                        rw [e2] at hbq
                        have E2 := Lib.hid e2
                        clear e2
                        cases e3 : sameB yv.l cl with
                        | false =>
                          rw [e3] at HCB2
                          have E3 := Lib.hid e3
                          clear e3
                          go_wp2_with fail
                          go_still_tail 22, (by kernel_rfl)
                          change wpList _ _ _ _ _ wj.drew
                          go_wp2_with fail
                          refine HCB2.out.mono ?_; rintro e wb ⟨rfl, hbb⟩
                          have HBB := Lib.hid (below_step (HBd.out 1) hbb)
                          clear hbb
                          go_wp2_with fail
                          go_meet
                          case rel => exact ⟨by rw [HBB0.out, E2.out, E3.out]; rfl, HBB⟩
                        | true =>
                          rw [e3] at HCB2
                          have E3 := Lib.hid e3
                          clear e3
                          go_wp2_with fail
                          go_still_tail 22, (by kernel_rfl)
                          change wpList _ _ _ _ _ wj.drew
                          go_wp2_with fail
                          refine HCB2.out.mono ?_; rintro e wb ⟨rfl, hbb⟩
                          have HBB := Lib.hid (below_step (HBd.out 1) hbb)
                          clear hbb
                          go_wp2_with fail
                          go_meet
                          case rel => exact ⟨by rw [HBB0.out, E2.out, E3.out]; rfl, HBB⟩
                    case rest =>
                     obtain ⟨rfl, HBC⟩ := hcut
                     rw [← HBB0.out] at HCS1
                     go_upto_if 107 with fail
                     go_cut [17] from 78 to 156 (fun n wx => n = .int .i64 (((D.take (j + 1)).filter (fun y => balE (cvv (xn, xv)) y && y.2.d == cl)).length : Nat) ∧ Hid (Below w8.heap.size w8 wx))
                     case first => as_aux_lemma =>
                      cases BB with
                      | false =>
                        go_wp2_with fail
                        go_meet
                        case rel => exact ⟨by rw [HCS1.out]; simp, HBC⟩
                      | true =>
                        go_wp2_with fail
                        go_meet
                        case rel => exact ⟨by rw [HCS1.out]; simp, HBC⟩
                     case rest =>
                      obtain ⟨rfl, HBX⟩ := hcut
                      obtain ⟨wx, rfl⟩ : ∃ wx : World, wx = wc := ⟨_, rfl⟩
                      obtain ⟨u2, u3, u4, hgx⟩ := HXC.out wx HBX.out
                      obtain ⟨h2, h3, h4⟩ := HYC.out wx HBX.out
                      dsimp only at u2 u3 u4 h2 h3 h4
                      have HLE := Lib.hid (fun (wz : World) => less_any xv.r xv.n yv.r yv.n wz)
                      have HBY := Lib.hid (fun (wz : World) (hb : Below wx.heap.size wx wz) => bytes_any yv.l xv.l yv.a xv.a yv.c xv.c wz (by have := (HRD.out wx HBX.out _ HYM.out).len; dsimp only at this; omega) (((HRD.out wx HBX.out _ HYM.out).lie).below hb) (((HRD.out wx HBX.out _ HXM.out).lie).below hb))
                      have hbq := fun w => eqBallot w yv.r yv.n xv.r xv.n
                      have hcl9 : cs.length ≤ 9223372036854775807 := by omega
                      have HFIN : Hid (∀ (wz : World), Below wx.heap.size wx wz → Below w8.heap.size w8 wz) := fun wz hb => below_step HBX.out hb
                      cases AB with
                      | true =>
                        have HAT : Hid ((D.take (j + 1)).any (abv1 (cvv (xn, xv))) = true) := by simp only [Hid]; rw [HAS1.out]; rfl
                        clear HAS1
                        as_aux_lemma =>
                          go_upto_region 28 with fail
                          refine wp_region_held_drew (S := (fun w' => w'.cell? ⟨g, j * 5 + 2, none⟩ = some (.int .i64 yv.r) ∧ w'.cell? ⟨g, j * 5 + 3, none⟩ = some (.int .i64 yv.n) ∧ w'.cell? ⟨g, j * 5 + 4, none⟩ = some (.slice yv.a yv.l.length yv.c) ∧ w'.cell? ⟨g, m * 5 + 2, none⟩ = some (.int .i64 xv.r) ∧ w'.cell? ⟨g, m * 5 + 3, none⟩ = some (.int .i64 xv.n) ∧ w'.cell? ⟨g, m * 5 + 4, none⟩ = some (.slice xv.a xv.l.length xv.c) ∧ g < w'.heap.size)) (by kernel_rfl) ⟨h2, h3, h4, u2, u3, u4, hgx⟩ (fun hHeld => ?_)
                          refine kit6.take_y (i := 0) (v := ?_) rfl (by kernel_rfl) (by kernel_rfl) (by kernel_rfl) (fun _ _ _ h => h) (by rfl) (by assumption) ?_ ?_
                          rotate_left
                          · intro w hSw
                            try dsimp only at hSw
                            go_simp
                            try with_reducible rfl
                          try simp only [Act.put, List.setIfInBounds_toArray, List.set_cons_zero, List.set_cons_succ]
                          refine kit6.take_y (i := 1) (v := ?_) rfl (by kernel_rfl) (by kernel_rfl) (by kernel_rfl) (fun _ _ _ h => h) (by rfl) (by assumption) ?_ ?_
                          rotate_left
                          · intro w hSw
                            try dsimp only at hSw
                            go_simp
                            try with_reducible rfl
                          try simp only [Act.put, List.setIfInBounds_toArray, List.set_cons_zero, List.set_cons_succ]
                          refine kit6.take_n (i := 2) rfl (by kernel_rfl) (by kernel_rfl) (by kernel_rfl) (fun _ _ _ h => h) (by rfl) (by assumption) ?_
                          try simp only [Act.put, List.setIfInBounds_toArray, List.set_cons_zero, List.set_cons_succ]
                          refine kit6.take_n (i := 3) rfl (by kernel_rfl) (by kernel_rfl) (by kernel_rfl) (fun _ _ _ h => h) (by rfl) (by assumption) ?_
                          try simp only [Act.put, List.setIfInBounds_toArray, List.set_cons_zero, List.set_cons_succ]
                          refine kit6.take_n (i := 4) rfl (by kernel_rfl) (by kernel_rfl) (by kernel_rfl) (fun _ _ _ h => h) (by rfl) (by assumption) ?_
                          try simp only [Act.put, List.setIfInBounds_toArray, List.set_cons_zero, List.set_cons_succ]
                          refine kit6.take_n (i := 5) rfl (by kernel_rfl) (by kernel_rfl) (by kernel_rfl) (fun _ _ _ h => h) (by rfl) (by assumption) ?_
                          try simp only [Act.put, List.setIfInBounds_toArray, List.set_cons_zero, List.set_cons_succ]
                          refine kit6.take_n (i := 6) rfl (by kernel_rfl) (by kernel_rfl) (by kernel_rfl) (fun _ _ _ h => h) (by rfl) (by assumption) ?_
                          try simp only [Act.put, List.setIfInBounds_toArray, List.set_cons_zero, List.set_cons_succ]
                          refine kit6.take_n (i := 7) rfl (by kernel_rfl) (by kernel_rfl) (by kernel_rfl) (fun _ _ _ h => h) (by rfl) (by assumption) ?_
                          try simp only [Act.put, List.setIfInBounds_toArray, List.set_cons_zero, List.set_cons_succ]
                          refine kit6.take_n (i := 8) rfl (by kernel_rfl) (by kernel_rfl) (by kernel_rfl) (fun _ _ _ h => h) (by rfl) (by assumption) ?_
                          try simp only [Act.put, List.setIfInBounds_toArray, List.set_cons_zero, List.set_cons_succ]
                          refine kit6.take_n (i := 9) rfl (by kernel_rfl) (by kernel_rfl) (by kernel_rfl) (fun _ _ _ h => h) (by rfl) (by assumption) ?_
                          try simp only [Act.put, List.setIfInBounds_toArray, List.set_cons_zero, List.set_cons_succ]
                          refine kit6.take_n (i := 10) rfl (by kernel_rfl) (by kernel_rfl) (by kernel_rfl) (fun _ _ _ h => h) (by rfl) (by assumption) ?_
                          try simp only [Act.put, List.setIfInBounds_toArray, List.set_cons_zero, List.set_cons_succ]
                          refine kit6.take_n (i := 11) rfl (by kernel_rfl) (by kernel_rfl) (by kernel_rfl) (fun _ _ _ h => h) (by rfl) (by assumption) ?_
                          try simp only [Act.put, List.setIfInBounds_toArray, List.set_cons_zero, List.set_cons_succ]
                          refine kit6.take_n (i := 12) rfl (by kernel_rfl) (by kernel_rfl) (by kernel_rfl) (fun _ _ _ h => h) (by rfl) (by assumption) ?_
                          try simp only [Act.put, List.setIfInBounds_toArray, List.set_cons_zero, List.set_cons_succ]
                          refine kit6.take_n (i := 13) rfl (by kernel_rfl) (by kernel_rfl) (by kernel_rfl) (fun _ _ _ h => h) (by rfl) (by assumption) ?_
                          try simp only [Act.put, List.setIfInBounds_toArray, List.set_cons_zero, List.set_cons_succ]
                          refine kit6.take_n (i := 14) rfl (by kernel_rfl) (by kernel_rfl) (by kernel_rfl) (fun _ _ _ h => h) (by rfl) (by assumption) ?_
                          try simp only [Act.put, List.setIfInBounds_toArray, List.set_cons_zero, List.set_cons_succ]
                          refine kit6.take_y (i := 15) (v := ?_) rfl (by kernel_rfl) (by kernel_rfl) (by kernel_rfl) (fun _ _ _ h => h) (by rfl) (by assumption) ?_ ?_
                          rotate_left
                          · intro w hSw
                            try dsimp only at hSw
                            go_simp
                            try with_reducible rfl
                          try simp only [Act.put, List.setIfInBounds_toArray, List.set_cons_zero, List.set_cons_succ]
                          refine kit6.take_y (i := 16) (v := ?_) rfl (by kernel_rfl) (by kernel_rfl) (by kernel_rfl) (fun _ _ _ h => h) (by rfl) (by assumption) ?_ ?_
                          rotate_left
                          · intro w hSw
                            try dsimp only at hSw
                            go_simp
                            try with_reducible rfl
                          try simp only [Act.put, List.setIfInBounds_toArray, List.set_cons_zero, List.set_cons_succ]
                          refine kit6.take_n (i := 17) rfl (by kernel_rfl) (by kernel_rfl) (by kernel_rfl) (fun _ _ _ h => h) (by rfl) (by assumption) ?_
                          try simp only [Act.put, List.setIfInBounds_toArray, List.set_cons_zero, List.set_cons_succ]
                          refine kit6.take_n (i := 18) rfl (by kernel_rfl) (by kernel_rfl) (by kernel_rfl) (fun _ _ _ h => h) (by rfl) (by assumption) ?_
                          try simp only [Act.put, List.setIfInBounds_toArray, List.set_cons_zero, List.set_cons_succ]
                          refine kit6.take_n (i := 19) rfl (by kernel_rfl) (by kernel_rfl) (by kernel_rfl) (fun _ _ _ h => h) (by rfl) (by assumption) ?_
                          try simp only [Act.put, List.setIfInBounds_toArray, List.set_cons_zero, List.set_cons_succ]
                          refine kit6.take_n (i := 20) rfl (by kernel_rfl) (by kernel_rfl) (by kernel_rfl) (fun _ _ _ h => h) (by rfl) (by assumption) ?_
                          try simp only [Act.put, List.setIfInBounds_toArray, List.set_cons_zero, List.set_cons_succ]
                          refine kit6.take_n (i := 21) rfl (by kernel_rfl) (by kernel_rfl) (by kernel_rfl) (fun _ _ _ h => h) (by rfl) (by assumption) ?_
                          try simp only [Act.put, List.setIfInBounds_toArray, List.set_cons_zero, List.set_cons_succ]
                          refine kit6.take_n (i := 22) rfl (by kernel_rfl) (by kernel_rfl) (by kernel_rfl) (fun _ _ _ h => h) (by rfl) (by assumption) ?_
                          try simp only [Act.put, List.setIfInBounds_toArray, List.set_cons_zero, List.set_cons_succ]
                          refine kit6.take_n (i := 23) rfl (by kernel_rfl) (by kernel_rfl) (by kernel_rfl) (fun _ _ _ h => h) (by rfl) (by assumption) ?_
                          try simp only [Act.put, List.setIfInBounds_toArray, List.set_cons_zero, List.set_cons_succ]
                          refine kit6.take_n (i := 24) rfl (by kernel_rfl) (by kernel_rfl) (by kernel_rfl) (fun _ _ _ h => h) (by rfl) (by assumption) ?_
                          try simp only [Act.put, List.setIfInBounds_toArray, List.set_cons_zero, List.set_cons_succ]
                          refine kit6.take_n (i := 25) rfl (by kernel_rfl) (by kernel_rfl) (by kernel_rfl) (fun _ _ _ h => h) (by rfl) (by assumption) ?_
                          try simp only [Act.put, List.setIfInBounds_toArray, List.set_cons_zero, List.set_cons_succ]
                          refine kit6.take_n (i := 26) rfl (by kernel_rfl) (by kernel_rfl) (by kernel_rfl) (fun _ _ _ h => h) (by rfl) (by assumption) ?_
                          try simp only [Act.put, List.setIfInBounds_toArray, List.set_cons_zero, List.set_cons_succ]
                          refine kit6.take_n (i := 27) rfl (by kernel_rfl) (by kernel_rfl) (by kernel_rfl) (fun _ _ _ h => h) (by rfl) (by assumption) ?_
                          try simp only [Act.put, List.setIfInBounds_toArray, List.set_cons_zero, List.set_cons_succ]
                          refine kit6.take_n (i := 28) rfl (by kernel_rfl) (by kernel_rfl) (by kernel_rfl) (fun _ _ _ h => h) (by rfl) (by assumption) ?_
                          try simp only [Act.put, List.setIfInBounds_toArray, List.set_cons_zero, List.set_cons_succ]
                          refine kit6.take_n (i := 29) rfl (by kernel_rfl) (by kernel_rfl) (by kernel_rfl) (fun _ _ _ h => h) (by rfl) (by assumption) ?_
                          try simp only [Act.put, List.setIfInBounds_toArray, List.set_cons_zero, List.set_cons_succ]
                          refine kit6.take_n (i := 30) rfl (by kernel_rfl) (by kernel_rfl) (by kernel_rfl) (fun _ _ _ h => h) (by rfl) (by assumption) ?_
                          try simp only [Act.put, List.setIfInBounds_toArray, List.set_cons_zero, List.set_cons_succ]
                          refine kit6.take_n (i := 31) rfl (by kernel_rfl) (by kernel_rfl) (by kernel_rfl) (fun _ _ _ h => h) (by rfl) (by assumption) ?_
                          try simp only [Act.put, List.setIfInBounds_toArray, List.set_cons_zero, List.set_cons_succ]
                          refine kit6.take_n (i := 32) rfl (by kernel_rfl) (by kernel_rfl) (by kernel_rfl) (fun _ _ _ h => h) (by rfl) (by assumption) ?_
                          try simp only [Act.put, List.setIfInBounds_toArray, List.set_cons_zero, List.set_cons_succ]
                          refine kit6.take_n (i := 33) rfl (by kernel_rfl) (by kernel_rfl) (by kernel_rfl) (fun _ _ _ h => h) (by rfl) (by assumption) ?_
                          try simp only [Act.put, List.setIfInBounds_toArray, List.set_cons_zero, List.set_cons_succ]
                          refine kit6.take_n (i := 34) rfl (by kernel_rfl) (by kernel_rfl) (by kernel_rfl) (fun _ _ _ h => h) (by rfl) (by assumption) ?_
                          try simp only [Act.put, List.setIfInBounds_toArray, List.set_cons_zero, List.set_cons_succ]
                          refine kit6.take_n (i := 35) rfl (by kernel_rfl) (by kernel_rfl) (by kernel_rfl) (fun _ _ _ h => h) (by rfl) (by assumption) ?_
                          try simp only [Act.put, List.setIfInBounds_toArray, List.set_cons_zero, List.set_cons_succ]
                          refine kit6.take_n (i := 36) rfl (by kernel_rfl) (by kernel_rfl) (by kernel_rfl) (fun _ _ _ h => h) (by rfl) (by assumption) ?_
                          try simp only [Act.put, List.setIfInBounds_toArray, List.set_cons_zero, List.set_cons_succ]
                          refine kit6.take_n (i := 37) rfl (by kernel_rfl) (by kernel_rfl) (by kernel_rfl) (fun _ _ _ h => h) (by rfl) (by assumption) ?_
                          try simp only [Act.put, List.setIfInBounds_toArray, List.set_cons_zero, List.set_cons_succ]
                          refine kit6.take_n (i := 38) rfl (by kernel_rfl) (by kernel_rfl) (by kernel_rfl) (fun _ _ _ h => h) (by rfl) (by assumption) ?_
                          try simp only [Act.put, List.setIfInBounds_toArray, List.set_cons_zero, List.set_cons_succ]
                          refine kit6.take_n (i := 39) rfl (by kernel_rfl) (by kernel_rfl) (by kernel_rfl) (fun _ _ _ h => h) (by rfl) (by assumption) ?_
                          try simp only [Act.put, List.setIfInBounds_toArray, List.set_cons_zero, List.set_cons_succ]
                          refine kit6.take_n (i := 40) rfl (by kernel_rfl) (by kernel_rfl) (by kernel_rfl) (fun _ _ _ h => h) (by rfl) (by assumption) ?_
                          try simp only [Act.put, List.setIfInBounds_toArray, List.set_cons_zero, List.set_cons_succ]
                          refine kit6.take_n (i := 41) rfl (by kernel_rfl) (by kernel_rfl) (by kernel_rfl) (fun _ _ _ h => h) (by rfl) (by assumption) ?_
                          try simp only [Act.put, List.setIfInBounds_toArray, List.set_cons_zero, List.set_cons_succ]
                          refine kit6.take_n (i := 42) rfl (by kernel_rfl) (by kernel_rfl) (by kernel_rfl) (fun _ _ _ h => h) (by rfl) (by assumption) ?_
                          try simp only [Act.put, List.setIfInBounds_toArray, List.set_cons_zero, List.set_cons_succ]
                          refine kit6.take_n (i := 43) rfl (by kernel_rfl) (by kernel_rfl) (by kernel_rfl) (fun _ _ _ h => h) (by rfl) (by assumption) ?_
                          try simp only [Act.put, List.setIfInBounds_toArray, List.set_cons_zero, List.set_cons_succ]
                          refine kit6.take_n (i := 44) rfl (by kernel_rfl) (by kernel_rfl) (by kernel_rfl) (fun _ _ _ h => h) (by rfl) (by assumption) ?_
                          try simp only [Act.put, List.setIfInBounds_toArray, List.set_cons_zero, List.set_cons_succ]
                          refine kit6.take_n (i := 45) rfl (by kernel_rfl) (by kernel_rfl) (by kernel_rfl) (fun _ _ _ h => h) (by rfl) (by assumption) ?_
                          try simp only [Act.put, List.setIfInBounds_toArray, List.set_cons_zero, List.set_cons_succ]
                          refine kit6.take_y (i := 46) (v := ?_) rfl (by kernel_rfl) (by kernel_rfl) (by kernel_rfl) (fun _ _ _ h => h) (by rfl) (by assumption) ?_ ?_
                          rotate_left
                          · intro w hSw
                            try dsimp only at hSw
                            go_simp
                            try with_reducible rfl
                          try simp only [Act.put, List.setIfInBounds_toArray, List.set_cons_zero, List.set_cons_succ]
                          refine kit6.take_y (i := 47) (v := ?_) rfl (by kernel_rfl) (by kernel_rfl) (by kernel_rfl) (fun _ _ _ h => h) (by rfl) (by assumption) ?_ ?_
                          rotate_left
                          · intro w hSw
                            try dsimp only at hSw
                            go_simp
                            try with_reducible rfl
                          try simp only [Act.put, List.setIfInBounds_toArray, List.set_cons_zero, List.set_cons_succ]
                          refine wpAnyH_done (by kernel_rfl) ?_ _
                          go_wp2_with fail
                          go_roundw
                          case rel => exact ⟨j + 1, by omega, by go_num, rfl, by rw [HAT.out], HFIN.out _ (below_drewN (Below.refl _ wx) _)⟩
                          case measure => simp [RowKit.intOf]; omega
                      | false =>
                        simp only [Bool.false_or] at HAS1
                        obtain ⟨LB, hLB⟩ : ∃ LB, LB = bal.lessB xv.r xv.n yv.r yv.n := ⟨_, rfl⟩
                        obtain ⟨EB, hEB⟩ : ∃ EB, EB = (yv.r == xv.r && yv.n == xv.n) := ⟨_, rfl⟩
                        obtain ⟨SB, hSB⟩ : ∃ SB, SB = sameB yv.l xv.l := ⟨_, rfl⟩
                        rw [← hLB, ← hEB, ← hSB] at HAS1
                        rw [← hLB] at HLE
                        rw [← hEB] at hbq
                        rw [← hSB] at HBY
                        clear hLB hEB hSB
                        cases LB with
                        | true =>
                          have HAT : Hid ((D.take (j + 1)).any (abv1 (cvv (xn, xv))) = true) := by simp only [Hid]; rw [HAS1.out]; rfl
                          clear HAS1
                          as_aux_lemma =>
                            go_upto_region 28 with fail
                            refine wp_region_held_drew (S := (fun w' => w'.cell? ⟨g, j * 5 + 2, none⟩ = some (.int .i64 yv.r) ∧ w'.cell? ⟨g, j * 5 + 3, none⟩ = some (.int .i64 yv.n) ∧ w'.cell? ⟨g, j * 5 + 4, none⟩ = some (.slice yv.a yv.l.length yv.c) ∧ w'.cell? ⟨g, m * 5 + 2, none⟩ = some (.int .i64 xv.r) ∧ w'.cell? ⟨g, m * 5 + 3, none⟩ = some (.int .i64 xv.n) ∧ w'.cell? ⟨g, m * 5 + 4, none⟩ = some (.slice xv.a xv.l.length xv.c) ∧ g < w'.heap.size)) (by kernel_rfl) ⟨h2, h3, h4, u2, u3, u4, hgx⟩ (fun hHeld => ?_)
                            refine kit6.take_y (i := 0) (v := ?_) rfl (by kernel_rfl) (by kernel_rfl) (by kernel_rfl) (fun _ _ _ h => h) (by rfl) (by assumption) ?_ ?_
                            rotate_left
                            · intro w hSw
                              try dsimp only at hSw
                              go_simp
                              try with_reducible rfl
                            try simp only [Act.put, List.setIfInBounds_toArray, List.set_cons_zero, List.set_cons_succ]
                            refine kit6.take_y (i := 1) (v := ?_) rfl (by kernel_rfl) (by kernel_rfl) (by kernel_rfl) (fun _ _ _ h => h) (by rfl) (by assumption) ?_ ?_
                            rotate_left
                            · intro w hSw
                              try dsimp only at hSw
                              go_simp
                              try with_reducible rfl
                            try simp only [Act.put, List.setIfInBounds_toArray, List.set_cons_zero, List.set_cons_succ]
                            refine kit6.take_y (i := 2) (v := ?_) rfl (by kernel_rfl) (by kernel_rfl) (by kernel_rfl) (fun _ _ _ h => h) (by rfl) (by assumption) ?_ ?_
                            rotate_left
                            · intro w hSw
                              try dsimp only at hSw
                              go_simp
                              try with_reducible rfl
                            try simp only [Act.put, List.setIfInBounds_toArray, List.set_cons_zero, List.set_cons_succ]
                            refine kit6.take_y (i := 3) (v := ?_) rfl (by kernel_rfl) (by kernel_rfl) (by kernel_rfl) (fun _ _ _ h => h) (by rfl) (by assumption) ?_ ?_
                            rotate_left
                            · intro w hSw
                              try dsimp only at hSw
                              go_simp
                              try with_reducible rfl
                            try simp only [Act.put, List.setIfInBounds_toArray, List.set_cons_zero, List.set_cons_succ]
                            refine kit6.take_y (i := 4) (v := ?_) rfl (by kernel_rfl) (by kernel_rfl) (by kernel_rfl) (fun _ _ _ h => h) (by rfl) (by assumption) ?_ ?_
                            rotate_left
                            · intro w hSw
                              try dsimp only at hSw
                              go_simp
                              try with_reducible rfl
                            try simp only [Act.put, List.setIfInBounds_toArray, List.set_cons_zero, List.set_cons_succ]
                            refine kit6.take_y (i := 5) (v := ?_) rfl (by kernel_rfl) (by kernel_rfl) (by kernel_rfl) (fun _ _ _ h => h) (by rfl) (by assumption) ?_ ?_
                            rotate_left
                            · intro w hSw
                              try dsimp only at hSw
                              go_simp
                              try with_reducible rfl
                            try simp only [Act.put, List.setIfInBounds_toArray, List.set_cons_zero, List.set_cons_succ]
                            refine kit6.take_y (i := 6) (v := ?_) rfl (by kernel_rfl) (by kernel_rfl) (by kernel_rfl) (fun _ _ _ h => h) (by rfl) (by assumption) ?_ ?_
                            rotate_left
                            · intro w hSw
                              try dsimp only at hSw
                              go_simp
                              try with_reducible rfl
                            try simp only [Act.put, List.setIfInBounds_toArray, List.set_cons_zero, List.set_cons_succ]
                            refine kit6.take_y (i := 7) (v := ?_) rfl (by kernel_rfl) (by kernel_rfl) (by kernel_rfl) (fun _ _ _ h => h) (by rfl) (by assumption) ?_ ?_
                            rotate_left
                            · intro w hSw
                              try dsimp only at hSw
                              go_simp
                              try with_reducible rfl
                            try simp only [Act.put, List.setIfInBounds_toArray, List.set_cons_zero, List.set_cons_succ]
                            refine kit6.take_y (i := 8) (v := ?_) rfl (by kernel_rfl) (by kernel_rfl) (by kernel_rfl) (fun _ _ _ h => h) (by rfl) (by assumption) ?_ ?_
                            rotate_left
                            · intro w hSw
                              try dsimp only at hSw
                              go_simp
                              try with_reducible rfl
                            try simp only [Act.put, List.setIfInBounds_toArray, List.set_cons_zero, List.set_cons_succ]
                            refine kit6.take_y (i := 9) (v := ?_) rfl (by kernel_rfl) (by kernel_rfl) (by kernel_rfl) (fun _ _ _ h => h) (by rfl) (by assumption) ?_ ?_
                            rotate_left
                            · intro w hSw
                              try dsimp only at hSw
                              go_simp
                              try with_reducible rfl
                            try simp only [Act.put, List.setIfInBounds_toArray, List.set_cons_zero, List.set_cons_succ]
                            refine kit6.take_y (i := 10) (v := ?_) rfl (by kernel_rfl) (by kernel_rfl) (by kernel_rfl) (fun _ _ _ h => h) (by rfl) (by assumption) ?_ ?_
                            rotate_left
                            · intro w hSw
                              try dsimp only at hSw
                              go_simp
                              try with_reducible rfl
                            try simp only [Act.put, List.setIfInBounds_toArray, List.set_cons_zero, List.set_cons_succ]
                            refine kit6.take_y (i := 11) (v := ?_) rfl (by kernel_rfl) (by kernel_rfl) (by kernel_rfl) (fun _ _ _ h => h) (by rfl) (by assumption) ?_ ?_
                            rotate_left
                            · intro w hSw
                              try dsimp only at hSw
                              go_simp
                              try with_reducible rfl
                            try simp only [Act.put, List.setIfInBounds_toArray, List.set_cons_zero, List.set_cons_succ]
                            refine kit6.take_y (i := 12) (v := ?_) rfl (by kernel_rfl) (by kernel_rfl) (by kernel_rfl) (fun _ _ _ h => h) (by rfl) (by assumption) ?_ ?_
                            rotate_left
                            · intro w hSw
                              try dsimp only at hSw
                              go_simp
                              try with_reducible rfl
                            try simp only [Act.put, List.setIfInBounds_toArray, List.set_cons_zero, List.set_cons_succ]
                            refine kit6.take_y (i := 13) (v := ?_) rfl (by kernel_rfl) (by kernel_rfl) (by kernel_rfl) (fun _ _ _ h => h) (by rfl) (by assumption) ?_ ?_
                            rotate_left
                            · intro w hSw
                              try dsimp only at hSw
                              go_simp
                              try with_reducible rfl
                            try simp only [Act.put, List.setIfInBounds_toArray, List.set_cons_zero, List.set_cons_succ]
                            refine kit6.take_c (i := 14) rfl (by kernel_rfl) (by rfl) (fun K hK => ?_)
                            go_simp
                            go_at_call 19; refine (HLE.out _).mono ?_; rintro e wl ⟨rfl, HLB⟩; have HBL := Lib.hid (below_step (below_drewN (Below.refl _ wx) 1) HLB)
                            dsimp only
                            refine hK.out _ _ ⟨cell_step hHeld.1 HLB, cell_step hHeld.2.1 HLB, cell_step hHeld.2.2.1 HLB, cell_step hHeld.2.2.2.1 HLB, cell_step hHeld.2.2.2.2.1 HLB, cell_step hHeld.2.2.2.2.2.1 HLB, Nat.lt_of_lt_of_le hHeld.2.2.2.2.2.2 HLB.size⟩ (fun hHeld => ?_)
                            clear hK K
                            try simp only [Act.put, List.setIfInBounds_toArray, List.set_cons_zero, List.set_cons_succ]
                            refine kit6.take_y (i := 15) (v := ?_) rfl (by kernel_rfl) (by kernel_rfl) (by kernel_rfl) (fun _ _ _ h => h) (by rfl) (by assumption) ?_ ?_
                            rotate_left
                            · intro w hSw
                              try dsimp only at hSw
                              go_simp
                              try with_reducible rfl
                            try simp only [Act.put, List.setIfInBounds_toArray, List.set_cons_zero, List.set_cons_succ]
                            refine kit6.take_y (i := 16) (v := ?_) rfl (by kernel_rfl) (by kernel_rfl) (by kernel_rfl) (fun _ _ _ h => h) (by rfl) (by assumption) ?_ ?_
                            rotate_left
                            · intro w hSw
                              try dsimp only at hSw
                              go_simp
                              try with_reducible rfl
                            try simp only [Act.put, List.setIfInBounds_toArray, List.set_cons_zero, List.set_cons_succ]
                            refine kit6.take_n (i := 17) rfl (by kernel_rfl) (by kernel_rfl) (by kernel_rfl) (fun _ _ _ h => h) (by rfl) (by assumption) ?_
                            try simp only [Act.put, List.setIfInBounds_toArray, List.set_cons_zero, List.set_cons_succ]
                            refine kit6.take_n (i := 18) rfl (by kernel_rfl) (by kernel_rfl) (by kernel_rfl) (fun _ _ _ h => h) (by rfl) (by assumption) ?_
                            try simp only [Act.put, List.setIfInBounds_toArray, List.set_cons_zero, List.set_cons_succ]
                            refine kit6.take_n (i := 19) rfl (by kernel_rfl) (by kernel_rfl) (by kernel_rfl) (fun _ _ _ h => h) (by rfl) (by assumption) ?_
                            try simp only [Act.put, List.setIfInBounds_toArray, List.set_cons_zero, List.set_cons_succ]
                            refine kit6.take_n (i := 20) rfl (by kernel_rfl) (by kernel_rfl) (by kernel_rfl) (fun _ _ _ h => h) (by rfl) (by assumption) ?_
                            try simp only [Act.put, List.setIfInBounds_toArray, List.set_cons_zero, List.set_cons_succ]
                            refine kit6.take_n (i := 21) rfl (by kernel_rfl) (by kernel_rfl) (by kernel_rfl) (fun _ _ _ h => h) (by rfl) (by assumption) ?_
                            try simp only [Act.put, List.setIfInBounds_toArray, List.set_cons_zero, List.set_cons_succ]
                            refine kit6.take_n (i := 22) rfl (by kernel_rfl) (by kernel_rfl) (by kernel_rfl) (fun _ _ _ h => h) (by rfl) (by assumption) ?_
                            try simp only [Act.put, List.setIfInBounds_toArray, List.set_cons_zero, List.set_cons_succ]
                            refine kit6.take_n (i := 23) rfl (by kernel_rfl) (by kernel_rfl) (by kernel_rfl) (fun _ _ _ h => h) (by rfl) (by assumption) ?_
                            try simp only [Act.put, List.setIfInBounds_toArray, List.set_cons_zero, List.set_cons_succ]
                            refine kit6.take_n (i := 24) rfl (by kernel_rfl) (by kernel_rfl) (by kernel_rfl) (fun _ _ _ h => h) (by rfl) (by assumption) ?_
                            try simp only [Act.put, List.setIfInBounds_toArray, List.set_cons_zero, List.set_cons_succ]
                            refine kit6.take_n (i := 25) rfl (by kernel_rfl) (by kernel_rfl) (by kernel_rfl) (fun _ _ _ h => h) (by rfl) (by assumption) ?_
                            try simp only [Act.put, List.setIfInBounds_toArray, List.set_cons_zero, List.set_cons_succ]
                            refine kit6.take_n (i := 26) rfl (by kernel_rfl) (by kernel_rfl) (by kernel_rfl) (fun _ _ _ h => h) (by rfl) (by assumption) ?_
                            try simp only [Act.put, List.setIfInBounds_toArray, List.set_cons_zero, List.set_cons_succ]
                            refine kit6.take_n (i := 27) rfl (by kernel_rfl) (by kernel_rfl) (by kernel_rfl) (fun _ _ _ h => h) (by rfl) (by assumption) ?_
                            try simp only [Act.put, List.setIfInBounds_toArray, List.set_cons_zero, List.set_cons_succ]
                            refine kit6.take_n (i := 28) rfl (by kernel_rfl) (by kernel_rfl) (by kernel_rfl) (fun _ _ _ h => h) (by rfl) (by assumption) ?_
                            try simp only [Act.put, List.setIfInBounds_toArray, List.set_cons_zero, List.set_cons_succ]
                            refine kit6.take_n (i := 29) rfl (by kernel_rfl) (by kernel_rfl) (by kernel_rfl) (fun _ _ _ h => h) (by rfl) (by assumption) ?_
                            try simp only [Act.put, List.setIfInBounds_toArray, List.set_cons_zero, List.set_cons_succ]
                            refine kit6.take_n (i := 30) rfl (by kernel_rfl) (by kernel_rfl) (by kernel_rfl) (fun _ _ _ h => h) (by rfl) (by assumption) ?_
                            try simp only [Act.put, List.setIfInBounds_toArray, List.set_cons_zero, List.set_cons_succ]
                            refine kit6.take_n (i := 31) rfl (by kernel_rfl) (by kernel_rfl) (by kernel_rfl) (fun _ _ _ h => h) (by rfl) (by assumption) ?_
                            try simp only [Act.put, List.setIfInBounds_toArray, List.set_cons_zero, List.set_cons_succ]
                            refine kit6.take_n (i := 32) rfl (by kernel_rfl) (by kernel_rfl) (by kernel_rfl) (fun _ _ _ h => h) (by rfl) (by assumption) ?_
                            try simp only [Act.put, List.setIfInBounds_toArray, List.set_cons_zero, List.set_cons_succ]
                            refine kit6.take_n (i := 33) rfl (by kernel_rfl) (by kernel_rfl) (by kernel_rfl) (fun _ _ _ h => h) (by rfl) (by assumption) ?_
                            try simp only [Act.put, List.setIfInBounds_toArray, List.set_cons_zero, List.set_cons_succ]
                            refine kit6.take_n (i := 34) rfl (by kernel_rfl) (by kernel_rfl) (by kernel_rfl) (fun _ _ _ h => h) (by rfl) (by assumption) ?_
                            try simp only [Act.put, List.setIfInBounds_toArray, List.set_cons_zero, List.set_cons_succ]
                            refine kit6.take_n (i := 35) rfl (by kernel_rfl) (by kernel_rfl) (by kernel_rfl) (fun _ _ _ h => h) (by rfl) (by assumption) ?_
                            try simp only [Act.put, List.setIfInBounds_toArray, List.set_cons_zero, List.set_cons_succ]
                            refine kit6.take_n (i := 36) rfl (by kernel_rfl) (by kernel_rfl) (by kernel_rfl) (fun _ _ _ h => h) (by rfl) (by assumption) ?_
                            try simp only [Act.put, List.setIfInBounds_toArray, List.set_cons_zero, List.set_cons_succ]
                            refine kit6.take_n (i := 37) rfl (by kernel_rfl) (by kernel_rfl) (by kernel_rfl) (fun _ _ _ h => h) (by rfl) (by assumption) ?_
                            try simp only [Act.put, List.setIfInBounds_toArray, List.set_cons_zero, List.set_cons_succ]
                            refine kit6.take_n (i := 38) rfl (by kernel_rfl) (by kernel_rfl) (by kernel_rfl) (fun _ _ _ h => h) (by rfl) (by assumption) ?_
                            try simp only [Act.put, List.setIfInBounds_toArray, List.set_cons_zero, List.set_cons_succ]
                            refine kit6.take_n (i := 39) rfl (by kernel_rfl) (by kernel_rfl) (by kernel_rfl) (fun _ _ _ h => h) (by rfl) (by assumption) ?_
                            try simp only [Act.put, List.setIfInBounds_toArray, List.set_cons_zero, List.set_cons_succ]
                            refine kit6.take_n (i := 40) rfl (by kernel_rfl) (by kernel_rfl) (by kernel_rfl) (fun _ _ _ h => h) (by rfl) (by assumption) ?_
                            try simp only [Act.put, List.setIfInBounds_toArray, List.set_cons_zero, List.set_cons_succ]
                            refine kit6.take_n (i := 41) rfl (by kernel_rfl) (by kernel_rfl) (by kernel_rfl) (fun _ _ _ h => h) (by rfl) (by assumption) ?_
                            try simp only [Act.put, List.setIfInBounds_toArray, List.set_cons_zero, List.set_cons_succ]
                            refine kit6.take_n (i := 42) rfl (by kernel_rfl) (by kernel_rfl) (by kernel_rfl) (fun _ _ _ h => h) (by rfl) (by assumption) ?_
                            try simp only [Act.put, List.setIfInBounds_toArray, List.set_cons_zero, List.set_cons_succ]
                            refine kit6.take_n (i := 43) rfl (by kernel_rfl) (by kernel_rfl) (by kernel_rfl) (fun _ _ _ h => h) (by rfl) (by assumption) ?_
                            try simp only [Act.put, List.setIfInBounds_toArray, List.set_cons_zero, List.set_cons_succ]
                            refine kit6.take_n (i := 44) rfl (by kernel_rfl) (by kernel_rfl) (by kernel_rfl) (fun _ _ _ h => h) (by rfl) (by assumption) ?_
                            try simp only [Act.put, List.setIfInBounds_toArray, List.set_cons_zero, List.set_cons_succ]
                            refine kit6.take_n (i := 45) rfl (by kernel_rfl) (by kernel_rfl) (by kernel_rfl) (fun _ _ _ h => h) (by rfl) (by assumption) ?_
                            try simp only [Act.put, List.setIfInBounds_toArray, List.set_cons_zero, List.set_cons_succ]
                            refine kit6.take_y (i := 46) (v := ?_) rfl (by kernel_rfl) (by kernel_rfl) (by kernel_rfl) (fun _ _ _ h => h) (by rfl) (by assumption) ?_ ?_
                            rotate_left
                            · intro w hSw
                              try dsimp only at hSw
                              go_simp
                              try with_reducible rfl
                            try simp only [Act.put, List.setIfInBounds_toArray, List.set_cons_zero, List.set_cons_succ]
                            refine kit6.take_y (i := 47) (v := ?_) rfl (by kernel_rfl) (by kernel_rfl) (by kernel_rfl) (fun _ _ _ h => h) (by rfl) (by assumption) ?_ ?_
                            rotate_left
                            · intro w hSw
                              try dsimp only at hSw
                              go_simp
                              try with_reducible rfl
                            try simp only [Act.put, List.setIfInBounds_toArray, List.set_cons_zero, List.set_cons_succ]
                            refine wpAnyH_done (by kernel_rfl) ?_ _
                            go_wp2_with fail
                            go_roundw
                            case rel => exact ⟨j + 1, by omega, by go_num, rfl, by rw [HAT.out], HFIN.out _ HBL.out⟩
                            case measure => simp [RowKit.intOf]; omega
                        | false =>
                          cases EB with
                          | false =>
                            have HAT : Hid ((D.take (j + 1)).any (abv1 (cvv (xn, xv))) = false) := by simp only [Hid]; rw [HAS1.out]; rfl
                            clear HAS1
                            as_aux_lemma =>
                              go_upto_region 28 with fail
                              refine wp_region_held_drew (S := (fun w' => w'.cell? ⟨g, j * 5 + 2, none⟩ = some (.int .i64 yv.r) ∧ w'.cell? ⟨g, j * 5 + 3, none⟩ = some (.int .i64 yv.n) ∧ w'.cell? ⟨g, j * 5 + 4, none⟩ = some (.slice yv.a yv.l.length yv.c) ∧ w'.cell? ⟨g, m * 5 + 2, none⟩ = some (.int .i64 xv.r) ∧ w'.cell? ⟨g, m * 5 + 3, none⟩ = some (.int .i64 xv.n) ∧ w'.cell? ⟨g, m * 5 + 4, none⟩ = some (.slice xv.a xv.l.length xv.c) ∧ g < w'.heap.size)) (by kernel_rfl) ⟨h2, h3, h4, u2, u3, u4, hgx⟩ (fun hHeld => ?_)
                              refine kit6.take_y (i := 0) (v := ?_) rfl (by kernel_rfl) (by kernel_rfl) (by kernel_rfl) (fun _ _ _ h => h) (by rfl) (by assumption) ?_ ?_
                              rotate_left
                              · intro w hSw
                                try dsimp only at hSw
                                go_simp
                                try with_reducible rfl
                              try simp only [Act.put, List.setIfInBounds_toArray, List.set_cons_zero, List.set_cons_succ]
                              refine kit6.take_y (i := 1) (v := ?_) rfl (by kernel_rfl) (by kernel_rfl) (by kernel_rfl) (fun _ _ _ h => h) (by rfl) (by assumption) ?_ ?_
                              rotate_left
                              · intro w hSw
                                try dsimp only at hSw
                                go_simp
                                try with_reducible rfl
                              try simp only [Act.put, List.setIfInBounds_toArray, List.set_cons_zero, List.set_cons_succ]
                              refine kit6.take_y (i := 2) (v := ?_) rfl (by kernel_rfl) (by kernel_rfl) (by kernel_rfl) (fun _ _ _ h => h) (by rfl) (by assumption) ?_ ?_
                              rotate_left
                              · intro w hSw
                                try dsimp only at hSw
                                go_simp
                                try with_reducible rfl
                              try simp only [Act.put, List.setIfInBounds_toArray, List.set_cons_zero, List.set_cons_succ]
                              refine kit6.take_y (i := 3) (v := ?_) rfl (by kernel_rfl) (by kernel_rfl) (by kernel_rfl) (fun _ _ _ h => h) (by rfl) (by assumption) ?_ ?_
                              rotate_left
                              · intro w hSw
                                try dsimp only at hSw
                                go_simp
                                try with_reducible rfl
                              try simp only [Act.put, List.setIfInBounds_toArray, List.set_cons_zero, List.set_cons_succ]
                              refine kit6.take_y (i := 4) (v := ?_) rfl (by kernel_rfl) (by kernel_rfl) (by kernel_rfl) (fun _ _ _ h => h) (by rfl) (by assumption) ?_ ?_
                              rotate_left
                              · intro w hSw
                                try dsimp only at hSw
                                go_simp
                                try with_reducible rfl
                              try simp only [Act.put, List.setIfInBounds_toArray, List.set_cons_zero, List.set_cons_succ]
                              refine kit6.take_y (i := 5) (v := ?_) rfl (by kernel_rfl) (by kernel_rfl) (by kernel_rfl) (fun _ _ _ h => h) (by rfl) (by assumption) ?_ ?_
                              rotate_left
                              · intro w hSw
                                try dsimp only at hSw
                                go_simp
                                try with_reducible rfl
                              try simp only [Act.put, List.setIfInBounds_toArray, List.set_cons_zero, List.set_cons_succ]
                              refine kit6.take_y (i := 6) (v := ?_) rfl (by kernel_rfl) (by kernel_rfl) (by kernel_rfl) (fun _ _ _ h => h) (by rfl) (by assumption) ?_ ?_
                              rotate_left
                              · intro w hSw
                                try dsimp only at hSw
                                go_simp
                                try with_reducible rfl
                              try simp only [Act.put, List.setIfInBounds_toArray, List.set_cons_zero, List.set_cons_succ]
                              refine kit6.take_y (i := 7) (v := ?_) rfl (by kernel_rfl) (by kernel_rfl) (by kernel_rfl) (fun _ _ _ h => h) (by rfl) (by assumption) ?_ ?_
                              rotate_left
                              · intro w hSw
                                try dsimp only at hSw
                                go_simp
                                try with_reducible rfl
                              try simp only [Act.put, List.setIfInBounds_toArray, List.set_cons_zero, List.set_cons_succ]
                              refine kit6.take_y (i := 8) (v := ?_) rfl (by kernel_rfl) (by kernel_rfl) (by kernel_rfl) (fun _ _ _ h => h) (by rfl) (by assumption) ?_ ?_
                              rotate_left
                              · intro w hSw
                                try dsimp only at hSw
                                go_simp
                                try with_reducible rfl
                              try simp only [Act.put, List.setIfInBounds_toArray, List.set_cons_zero, List.set_cons_succ]
                              refine kit6.take_y (i := 9) (v := ?_) rfl (by kernel_rfl) (by kernel_rfl) (by kernel_rfl) (fun _ _ _ h => h) (by rfl) (by assumption) ?_ ?_
                              rotate_left
                              · intro w hSw
                                try dsimp only at hSw
                                go_simp
                                try with_reducible rfl
                              try simp only [Act.put, List.setIfInBounds_toArray, List.set_cons_zero, List.set_cons_succ]
                              refine kit6.take_y (i := 10) (v := ?_) rfl (by kernel_rfl) (by kernel_rfl) (by kernel_rfl) (fun _ _ _ h => h) (by rfl) (by assumption) ?_ ?_
                              rotate_left
                              · intro w hSw
                                try dsimp only at hSw
                                go_simp
                                try with_reducible rfl
                              try simp only [Act.put, List.setIfInBounds_toArray, List.set_cons_zero, List.set_cons_succ]
                              refine kit6.take_y (i := 11) (v := ?_) rfl (by kernel_rfl) (by kernel_rfl) (by kernel_rfl) (fun _ _ _ h => h) (by rfl) (by assumption) ?_ ?_
                              rotate_left
                              · intro w hSw
                                try dsimp only at hSw
                                go_simp
                                try with_reducible rfl
                              try simp only [Act.put, List.setIfInBounds_toArray, List.set_cons_zero, List.set_cons_succ]
                              refine kit6.take_y (i := 12) (v := ?_) rfl (by kernel_rfl) (by kernel_rfl) (by kernel_rfl) (fun _ _ _ h => h) (by rfl) (by assumption) ?_ ?_
                              rotate_left
                              · intro w hSw
                                try dsimp only at hSw
                                go_simp
                                try with_reducible rfl
                              try simp only [Act.put, List.setIfInBounds_toArray, List.set_cons_zero, List.set_cons_succ]
                              refine kit6.take_y (i := 13) (v := ?_) rfl (by kernel_rfl) (by kernel_rfl) (by kernel_rfl) (fun _ _ _ h => h) (by rfl) (by assumption) ?_ ?_
                              rotate_left
                              · intro w hSw
                                try dsimp only at hSw
                                go_simp
                                try with_reducible rfl
                              try simp only [Act.put, List.setIfInBounds_toArray, List.set_cons_zero, List.set_cons_succ]
                              refine kit6.take_c (i := 14) rfl (by kernel_rfl) (by rfl) (fun K hK => ?_)
                              go_simp
                              go_at_call 19; refine (HLE.out _).mono ?_; rintro e wl ⟨rfl, HLB⟩; have HBL := Lib.hid (below_step (below_drewN (Below.refl _ wx) 1) HLB)
                              dsimp only
                              refine hK.out _ _ ⟨cell_step hHeld.1 HLB, cell_step hHeld.2.1 HLB, cell_step hHeld.2.2.1 HLB, cell_step hHeld.2.2.2.1 HLB, cell_step hHeld.2.2.2.2.1 HLB, cell_step hHeld.2.2.2.2.2.1 HLB, Nat.lt_of_lt_of_le hHeld.2.2.2.2.2.2 HLB.size⟩ (fun hHeld => ?_)
                              clear hK K
                              try simp only [Act.put, List.setIfInBounds_toArray, List.set_cons_zero, List.set_cons_succ]
                              refine kit6.take_y (i := 15) (v := ?_) rfl (by kernel_rfl) (by kernel_rfl) (by kernel_rfl) (fun _ _ _ h => h) (by rfl) (by assumption) ?_ ?_
                              rotate_left
                              · intro w hSw
                                try dsimp only at hSw
                                go_simp
                                try with_reducible rfl
                              try simp only [Act.put, List.setIfInBounds_toArray, List.set_cons_zero, List.set_cons_succ]
                              refine kit6.take_y (i := 16) (v := ?_) rfl (by kernel_rfl) (by kernel_rfl) (by kernel_rfl) (fun _ _ _ h => h) (by rfl) (by assumption) ?_ ?_
                              rotate_left
                              · intro w hSw
                                try dsimp only at hSw
                                go_simp
                                try with_reducible rfl
                              try simp only [Act.put, List.setIfInBounds_toArray, List.set_cons_zero, List.set_cons_succ]
                              refine kit6.take_y (i := 17) (v := ?_) rfl (by kernel_rfl) (by kernel_rfl) (by kernel_rfl) (fun _ _ _ h => h) (by rfl) (by assumption) ?_ ?_
                              rotate_left
                              · intro w hSw
                                try dsimp only at hSw
                                go_simp
                                try with_reducible rfl
                              try simp only [Act.put, List.setIfInBounds_toArray, List.set_cons_zero, List.set_cons_succ]
                              refine kit6.take_y (i := 18) (v := ?_) rfl (by kernel_rfl) (by kernel_rfl) (by kernel_rfl) (fun _ _ _ h => h) (by rfl) (by assumption) ?_ ?_
                              rotate_left
                              · intro w hSw
                                try dsimp only at hSw
                                go_simp
                                try with_reducible rfl
                              try simp only [Act.put, List.setIfInBounds_toArray, List.set_cons_zero, List.set_cons_succ]
                              refine kit6.take_y (i := 19) (v := ?_) rfl (by kernel_rfl) (by kernel_rfl) (by kernel_rfl) (fun _ _ _ h => h) (by rfl) (by assumption) ?_ ?_
                              rotate_left
                              · intro w hSw
                                try dsimp only at hSw
                                go_simp
                                try with_reducible rfl
                              try simp only [Act.put, List.setIfInBounds_toArray, List.set_cons_zero, List.set_cons_succ]
                              refine kit6.take_y (i := 20) (v := ?_) rfl (by kernel_rfl) (by kernel_rfl) (by kernel_rfl) (fun _ _ _ h => h) (by rfl) (by assumption) ?_ ?_
                              rotate_left
                              · intro w hSw
                                try dsimp only at hSw
                                go_simp
                                try with_reducible rfl
                              try simp only [Act.put, List.setIfInBounds_toArray, List.set_cons_zero, List.set_cons_succ]
                              refine kit6.take_y (i := 21) (v := ?_) rfl (by kernel_rfl) (by kernel_rfl) (by kernel_rfl) (fun _ _ _ h => h) (by rfl) (by assumption) ?_ ?_
                              rotate_left
                              · intro w hSw
                                try dsimp only at hSw
                                go_simp
                                try with_reducible rfl
                              try simp only [Act.put, List.setIfInBounds_toArray, List.set_cons_zero, List.set_cons_succ]
                              refine kit6.take_y (i := 22) (v := ?_) rfl (by kernel_rfl) (by kernel_rfl) (by kernel_rfl) (fun _ _ _ h => h) (by rfl) (by assumption) ?_ ?_
                              rotate_left
                              · intro w hSw
                                try dsimp only at hSw
                                go_simp
                                try with_reducible rfl
                              try simp only [Act.put, List.setIfInBounds_toArray, List.set_cons_zero, List.set_cons_succ]
                              refine kit6.take_y (i := 23) (v := ?_) rfl (by kernel_rfl) (by kernel_rfl) (by kernel_rfl) (fun _ _ _ h => h) (by rfl) (by assumption) ?_ ?_
                              rotate_left
                              · intro w hSw
                                try dsimp only at hSw
                                go_simp
                                try with_reducible rfl
                              try simp only [Act.put, List.setIfInBounds_toArray, List.set_cons_zero, List.set_cons_succ]
                              refine kit6.take_y (i := 24) (v := ?_) rfl (by kernel_rfl) (by kernel_rfl) (by kernel_rfl) (fun _ _ _ h => h) (by rfl) (by assumption) ?_ ?_
                              rotate_left
                              · intro w hSw
                                try dsimp only at hSw
                                go_simp
                                try with_reducible rfl
                              try simp only [Act.put, List.setIfInBounds_toArray, List.set_cons_zero, List.set_cons_succ]
                              refine kit6.take_y (i := 25) (v := ?_) rfl (by kernel_rfl) (by kernel_rfl) (by kernel_rfl) (fun _ _ _ h => h) (by rfl) (by assumption) ?_ ?_
                              rotate_left
                              · intro w hSw
                                try dsimp only at hSw
                                go_simp
                                try with_reducible rfl
                              try simp only [Act.put, List.setIfInBounds_toArray, List.set_cons_zero, List.set_cons_succ]
                              refine kit6.take_y (i := 26) (v := ?_) rfl (by kernel_rfl) (by kernel_rfl) (by kernel_rfl) (fun _ _ _ h => h) (by rfl) (by assumption) ?_ ?_
                              rotate_left
                              · intro w hSw
                                try dsimp only at hSw
                                go_simp
                                try with_reducible rfl
                              try simp only [Act.put, List.setIfInBounds_toArray, List.set_cons_zero, List.set_cons_succ]
                              refine kit6.take_y (i := 27) (v := ?_) rfl (by kernel_rfl) (by kernel_rfl) (by kernel_rfl) (fun _ _ _ h => h) (by rfl) (by assumption) ?_ ?_
                              rotate_left
                              · intro w hSw
                                try dsimp only at hSw
                                go_simp
                                try with_reducible rfl
                              try simp only [Act.put, List.setIfInBounds_toArray, List.set_cons_zero, List.set_cons_succ]
                              refine kit6.take_y (i := 28) (v := ?_) rfl (by kernel_rfl) (by kernel_rfl) (by kernel_rfl) (fun _ _ _ h => h) (by rfl) (by assumption) ?_ ?_
                              rotate_left
                              · intro w hSw
                                try dsimp only at hSw
                                go_simp
                                try with_reducible rfl
                              try simp only [Act.put, List.setIfInBounds_toArray, List.set_cons_zero, List.set_cons_succ]
                              refine kit6.take_y (i := 29) (v := ?_) rfl (by kernel_rfl) (by kernel_rfl) (by kernel_rfl) (fun _ _ _ h => h) (by rfl) (by assumption) ?_ ?_
                              rotate_left
                              · intro w hSw
                                try dsimp only at hSw
                                go_simp
                                try with_reducible rfl
                              try simp only [Act.put, List.setIfInBounds_toArray, List.set_cons_zero, List.set_cons_succ]
                              refine kit6.take_y (i := 30) (v := ?_) rfl (by kernel_rfl) (by kernel_rfl) (by kernel_rfl) (fun _ _ _ h => h) (by rfl) (by assumption) ?_ ?_
                              rotate_left
                              · intro w hSw
                                try dsimp only at hSw
                                go_simp
                                try with_reducible rfl
                              try simp only [Act.put, List.setIfInBounds_toArray, List.set_cons_zero, List.set_cons_succ]
                              refine kit6.take_n (i := 31) rfl (by kernel_rfl) (by kernel_rfl) (by kernel_rfl) (fun _ _ _ h => h) (by rfl) (by assumption) ?_
                              try simp only [Act.put, List.setIfInBounds_toArray, List.set_cons_zero, List.set_cons_succ]
                              refine kit6.take_n (i := 32) rfl (by kernel_rfl) (by kernel_rfl) (by kernel_rfl) (fun _ _ _ h => h) (by rfl) (by assumption) ?_
                              try simp only [Act.put, List.setIfInBounds_toArray, List.set_cons_zero, List.set_cons_succ]
                              refine kit6.take_n (i := 33) rfl (by kernel_rfl) (by kernel_rfl) (by kernel_rfl) (fun _ _ _ h => h) (by rfl) (by assumption) ?_
                              try simp only [Act.put, List.setIfInBounds_toArray, List.set_cons_zero, List.set_cons_succ]
                              refine kit6.take_n (i := 34) rfl (by kernel_rfl) (by kernel_rfl) (by kernel_rfl) (fun _ _ _ h => h) (by rfl) (by assumption) ?_
                              try simp only [Act.put, List.setIfInBounds_toArray, List.set_cons_zero, List.set_cons_succ]
                              refine kit6.take_n (i := 35) rfl (by kernel_rfl) (by kernel_rfl) (by kernel_rfl) (fun _ _ _ h => h) (by rfl) (by assumption) ?_
                              try simp only [Act.put, List.setIfInBounds_toArray, List.set_cons_zero, List.set_cons_succ]
                              refine kit6.take_n (i := 36) rfl (by kernel_rfl) (by kernel_rfl) (by kernel_rfl) (fun _ _ _ h => h) (by rfl) (by assumption) ?_
                              try simp only [Act.put, List.setIfInBounds_toArray, List.set_cons_zero, List.set_cons_succ]
                              refine kit6.take_n (i := 37) rfl (by kernel_rfl) (by kernel_rfl) (by kernel_rfl) (fun _ _ _ h => h) (by rfl) (by assumption) ?_
                              try simp only [Act.put, List.setIfInBounds_toArray, List.set_cons_zero, List.set_cons_succ]
                              refine kit6.take_n (i := 38) rfl (by kernel_rfl) (by kernel_rfl) (by kernel_rfl) (fun _ _ _ h => h) (by rfl) (by assumption) ?_
                              try simp only [Act.put, List.setIfInBounds_toArray, List.set_cons_zero, List.set_cons_succ]
                              refine kit6.take_n (i := 39) rfl (by kernel_rfl) (by kernel_rfl) (by kernel_rfl) (fun _ _ _ h => h) (by rfl) (by assumption) ?_
                              try simp only [Act.put, List.setIfInBounds_toArray, List.set_cons_zero, List.set_cons_succ]
                              refine kit6.take_n (i := 40) rfl (by kernel_rfl) (by kernel_rfl) (by kernel_rfl) (fun _ _ _ h => h) (by rfl) (by assumption) ?_
                              try simp only [Act.put, List.setIfInBounds_toArray, List.set_cons_zero, List.set_cons_succ]
                              refine kit6.take_n (i := 41) rfl (by kernel_rfl) (by kernel_rfl) (by kernel_rfl) (fun _ _ _ h => h) (by rfl) (by assumption) ?_
                              try simp only [Act.put, List.setIfInBounds_toArray, List.set_cons_zero, List.set_cons_succ]
                              refine kit6.take_n (i := 42) rfl (by kernel_rfl) (by kernel_rfl) (by kernel_rfl) (fun _ _ _ h => h) (by rfl) (by assumption) ?_
                              try simp only [Act.put, List.setIfInBounds_toArray, List.set_cons_zero, List.set_cons_succ]
                              refine kit6.take_n (i := 43) rfl (by kernel_rfl) (by kernel_rfl) (by kernel_rfl) (fun _ _ _ h => h) (by rfl) (by assumption) ?_
                              try simp only [Act.put, List.setIfInBounds_toArray, List.set_cons_zero, List.set_cons_succ]
                              refine kit6.take_n (i := 44) rfl (by kernel_rfl) (by kernel_rfl) (by kernel_rfl) (fun _ _ _ h => h) (by rfl) (by assumption) ?_
                              try simp only [Act.put, List.setIfInBounds_toArray, List.set_cons_zero, List.set_cons_succ]
                              refine kit6.take_y (i := 45) (v := ?_) rfl (by kernel_rfl) (by kernel_rfl) (by kernel_rfl) (fun _ _ _ h => h) (by rfl) (by assumption) ?_ ?_
                              rotate_left
                              · intro w hSw
                                try dsimp only at hSw
                                go_simp
                                try with_reducible rfl
                              try simp only [Act.put, List.setIfInBounds_toArray, List.set_cons_zero, List.set_cons_succ]
                              refine kit6.take_y (i := 46) (v := ?_) rfl (by kernel_rfl) (by kernel_rfl) (by kernel_rfl) (fun _ _ _ h => h) (by rfl) (by assumption) ?_ ?_
                              rotate_left
                              · intro w hSw
                                try dsimp only at hSw
                                go_simp
                                try with_reducible rfl
                              try simp only [Act.put, List.setIfInBounds_toArray, List.set_cons_zero, List.set_cons_succ]
                              refine kit6.take_y (i := 47) (v := ?_) rfl (by kernel_rfl) (by kernel_rfl) (by kernel_rfl) (fun _ _ _ h => h) (by rfl) (by assumption) ?_ ?_
                              rotate_left
                              · intro w hSw
                                try dsimp only at hSw
                                go_simp
                                try with_reducible rfl
                              try simp only [Act.put, List.setIfInBounds_toArray, List.set_cons_zero, List.set_cons_succ]
                              refine wpAnyH_done (by kernel_rfl) ?_ _
                              go_wp2_with fail
                              go_roundw
                              case rel => exact ⟨j + 1, by omega, by go_num, rfl, by rw [HAT.out], HFIN.out _ HBL.out⟩
                              case measure => simp [RowKit.intOf]; omega
                          | true =>
                            cases SB with
                            | false =>
                              have HAT : Hid ((D.take (j + 1)).any (abv1 (cvv (xn, xv))) = true) := by simp only [Hid]; rw [HAS1.out]; rfl
                              clear HAS1
                              as_aux_lemma =>
                                go_upto_region 28 with fail
                                refine wp_region_held_drew (S := (fun w' => w'.cell? ⟨g, j * 5 + 2, none⟩ = some (.int .i64 yv.r) ∧ w'.cell? ⟨g, j * 5 + 3, none⟩ = some (.int .i64 yv.n) ∧ w'.cell? ⟨g, j * 5 + 4, none⟩ = some (.slice yv.a yv.l.length yv.c) ∧ w'.cell? ⟨g, m * 5 + 2, none⟩ = some (.int .i64 xv.r) ∧ w'.cell? ⟨g, m * 5 + 3, none⟩ = some (.int .i64 xv.n) ∧ w'.cell? ⟨g, m * 5 + 4, none⟩ = some (.slice xv.a xv.l.length xv.c) ∧ g < w'.heap.size)) (by kernel_rfl) ⟨h2, h3, h4, u2, u3, u4, hgx⟩ (fun hHeld => ?_)
                                refine kit6.take_y (i := 0) (v := ?_) rfl (by kernel_rfl) (by kernel_rfl) (by kernel_rfl) (fun _ _ _ h => h) (by rfl) (by assumption) ?_ ?_
                                rotate_left
                                · intro w hSw
                                  try dsimp only at hSw
                                  go_simp
                                  try with_reducible rfl
                                try simp only [Act.put, List.setIfInBounds_toArray, List.set_cons_zero, List.set_cons_succ]
                                refine kit6.take_y (i := 1) (v := ?_) rfl (by kernel_rfl) (by kernel_rfl) (by kernel_rfl) (fun _ _ _ h => h) (by rfl) (by assumption) ?_ ?_
                                rotate_left
                                · intro w hSw
                                  try dsimp only at hSw
                                  go_simp
                                  try with_reducible rfl
                                try simp only [Act.put, List.setIfInBounds_toArray, List.set_cons_zero, List.set_cons_succ]
                                refine kit6.take_y (i := 2) (v := ?_) rfl (by kernel_rfl) (by kernel_rfl) (by kernel_rfl) (fun _ _ _ h => h) (by rfl) (by assumption) ?_ ?_
                                rotate_left
                                · intro w hSw
                                  try dsimp only at hSw
                                  go_simp
                                  try with_reducible rfl
                                try simp only [Act.put, List.setIfInBounds_toArray, List.set_cons_zero, List.set_cons_succ]
                                refine kit6.take_y (i := 3) (v := ?_) rfl (by kernel_rfl) (by kernel_rfl) (by kernel_rfl) (fun _ _ _ h => h) (by rfl) (by assumption) ?_ ?_
                                rotate_left
                                · intro w hSw
                                  try dsimp only at hSw
                                  go_simp
                                  try with_reducible rfl
                                try simp only [Act.put, List.setIfInBounds_toArray, List.set_cons_zero, List.set_cons_succ]
                                refine kit6.take_y (i := 4) (v := ?_) rfl (by kernel_rfl) (by kernel_rfl) (by kernel_rfl) (fun _ _ _ h => h) (by rfl) (by assumption) ?_ ?_
                                rotate_left
                                · intro w hSw
                                  try dsimp only at hSw
                                  go_simp
                                  try with_reducible rfl
                                try simp only [Act.put, List.setIfInBounds_toArray, List.set_cons_zero, List.set_cons_succ]
                                refine kit6.take_y (i := 5) (v := ?_) rfl (by kernel_rfl) (by kernel_rfl) (by kernel_rfl) (fun _ _ _ h => h) (by rfl) (by assumption) ?_ ?_
                                rotate_left
                                · intro w hSw
                                  try dsimp only at hSw
                                  go_simp
                                  try with_reducible rfl
                                try simp only [Act.put, List.setIfInBounds_toArray, List.set_cons_zero, List.set_cons_succ]
                                refine kit6.take_y (i := 6) (v := ?_) rfl (by kernel_rfl) (by kernel_rfl) (by kernel_rfl) (fun _ _ _ h => h) (by rfl) (by assumption) ?_ ?_
                                rotate_left
                                · intro w hSw
                                  try dsimp only at hSw
                                  go_simp
                                  try with_reducible rfl
                                try simp only [Act.put, List.setIfInBounds_toArray, List.set_cons_zero, List.set_cons_succ]
                                refine kit6.take_y (i := 7) (v := ?_) rfl (by kernel_rfl) (by kernel_rfl) (by kernel_rfl) (fun _ _ _ h => h) (by rfl) (by assumption) ?_ ?_
                                rotate_left
                                · intro w hSw
                                  try dsimp only at hSw
                                  go_simp
                                  try with_reducible rfl
                                try simp only [Act.put, List.setIfInBounds_toArray, List.set_cons_zero, List.set_cons_succ]
                                refine kit6.take_y (i := 8) (v := ?_) rfl (by kernel_rfl) (by kernel_rfl) (by kernel_rfl) (fun _ _ _ h => h) (by rfl) (by assumption) ?_ ?_
                                rotate_left
                                · intro w hSw
                                  try dsimp only at hSw
                                  go_simp
                                  try with_reducible rfl
                                try simp only [Act.put, List.setIfInBounds_toArray, List.set_cons_zero, List.set_cons_succ]
                                refine kit6.take_y (i := 9) (v := ?_) rfl (by kernel_rfl) (by kernel_rfl) (by kernel_rfl) (fun _ _ _ h => h) (by rfl) (by assumption) ?_ ?_
                                rotate_left
                                · intro w hSw
                                  try dsimp only at hSw
                                  go_simp
                                  try with_reducible rfl
                                try simp only [Act.put, List.setIfInBounds_toArray, List.set_cons_zero, List.set_cons_succ]
                                refine kit6.take_y (i := 10) (v := ?_) rfl (by kernel_rfl) (by kernel_rfl) (by kernel_rfl) (fun _ _ _ h => h) (by rfl) (by assumption) ?_ ?_
                                rotate_left
                                · intro w hSw
                                  try dsimp only at hSw
                                  go_simp
                                  try with_reducible rfl
                                try simp only [Act.put, List.setIfInBounds_toArray, List.set_cons_zero, List.set_cons_succ]
                                refine kit6.take_y (i := 11) (v := ?_) rfl (by kernel_rfl) (by kernel_rfl) (by kernel_rfl) (fun _ _ _ h => h) (by rfl) (by assumption) ?_ ?_
                                rotate_left
                                · intro w hSw
                                  try dsimp only at hSw
                                  go_simp
                                  try with_reducible rfl
                                try simp only [Act.put, List.setIfInBounds_toArray, List.set_cons_zero, List.set_cons_succ]
                                refine kit6.take_y (i := 12) (v := ?_) rfl (by kernel_rfl) (by kernel_rfl) (by kernel_rfl) (fun _ _ _ h => h) (by rfl) (by assumption) ?_ ?_
                                rotate_left
                                · intro w hSw
                                  try dsimp only at hSw
                                  go_simp
                                  try with_reducible rfl
                                try simp only [Act.put, List.setIfInBounds_toArray, List.set_cons_zero, List.set_cons_succ]
                                refine kit6.take_y (i := 13) (v := ?_) rfl (by kernel_rfl) (by kernel_rfl) (by kernel_rfl) (fun _ _ _ h => h) (by rfl) (by assumption) ?_ ?_
                                rotate_left
                                · intro w hSw
                                  try dsimp only at hSw
                                  go_simp
                                  try with_reducible rfl
                                try simp only [Act.put, List.setIfInBounds_toArray, List.set_cons_zero, List.set_cons_succ]
                                refine kit6.take_c (i := 14) rfl (by kernel_rfl) (by rfl) (fun K hK => ?_)
                                go_simp
                                go_at_call 19; refine (HLE.out _).mono ?_; rintro e wl ⟨rfl, HLB⟩; have HBL := Lib.hid (below_step (below_drewN (Below.refl _ wx) 1) HLB)
                                dsimp only
                                refine hK.out _ _ ⟨cell_step hHeld.1 HLB, cell_step hHeld.2.1 HLB, cell_step hHeld.2.2.1 HLB, cell_step hHeld.2.2.2.1 HLB, cell_step hHeld.2.2.2.2.1 HLB, cell_step hHeld.2.2.2.2.2.1 HLB, Nat.lt_of_lt_of_le hHeld.2.2.2.2.2.2 HLB.size⟩ (fun hHeld => ?_)
                                clear hK K
                                try simp only [Act.put, List.setIfInBounds_toArray, List.set_cons_zero, List.set_cons_succ]
                                refine kit6.take_y (i := 15) (v := ?_) rfl (by kernel_rfl) (by kernel_rfl) (by kernel_rfl) (fun _ _ _ h => h) (by rfl) (by assumption) ?_ ?_
                                rotate_left
                                · intro w hSw
                                  try dsimp only at hSw
                                  go_simp
                                  try with_reducible rfl
                                try simp only [Act.put, List.setIfInBounds_toArray, List.set_cons_zero, List.set_cons_succ]
                                refine kit6.take_y (i := 16) (v := ?_) rfl (by kernel_rfl) (by kernel_rfl) (by kernel_rfl) (fun _ _ _ h => h) (by rfl) (by assumption) ?_ ?_
                                rotate_left
                                · intro w hSw
                                  try dsimp only at hSw
                                  go_simp
                                  try with_reducible rfl
                                try simp only [Act.put, List.setIfInBounds_toArray, List.set_cons_zero, List.set_cons_succ]
                                refine kit6.take_y (i := 17) (v := ?_) rfl (by kernel_rfl) (by kernel_rfl) (by kernel_rfl) (fun _ _ _ h => h) (by rfl) (by assumption) ?_ ?_
                                rotate_left
                                · intro w hSw
                                  try dsimp only at hSw
                                  go_simp
                                  try with_reducible rfl
                                try simp only [Act.put, List.setIfInBounds_toArray, List.set_cons_zero, List.set_cons_succ]
                                refine kit6.take_y (i := 18) (v := ?_) rfl (by kernel_rfl) (by kernel_rfl) (by kernel_rfl) (fun _ _ _ h => h) (by rfl) (by assumption) ?_ ?_
                                rotate_left
                                · intro w hSw
                                  try dsimp only at hSw
                                  go_simp
                                  try with_reducible rfl
                                try simp only [Act.put, List.setIfInBounds_toArray, List.set_cons_zero, List.set_cons_succ]
                                refine kit6.take_y (i := 19) (v := ?_) rfl (by kernel_rfl) (by kernel_rfl) (by kernel_rfl) (fun _ _ _ h => h) (by rfl) (by assumption) ?_ ?_
                                rotate_left
                                · intro w hSw
                                  try dsimp only at hSw
                                  go_simp
                                  try with_reducible rfl
                                try simp only [Act.put, List.setIfInBounds_toArray, List.set_cons_zero, List.set_cons_succ]
                                refine kit6.take_y (i := 20) (v := ?_) rfl (by kernel_rfl) (by kernel_rfl) (by kernel_rfl) (fun _ _ _ h => h) (by rfl) (by assumption) ?_ ?_
                                rotate_left
                                · intro w hSw
                                  try dsimp only at hSw
                                  go_simp
                                  try with_reducible rfl
                                try simp only [Act.put, List.setIfInBounds_toArray, List.set_cons_zero, List.set_cons_succ]
                                refine kit6.take_y (i := 21) (v := ?_) rfl (by kernel_rfl) (by kernel_rfl) (by kernel_rfl) (fun _ _ _ h => h) (by rfl) (by assumption) ?_ ?_
                                rotate_left
                                · intro w hSw
                                  try dsimp only at hSw
                                  go_simp
                                  try with_reducible rfl
                                try simp only [Act.put, List.setIfInBounds_toArray, List.set_cons_zero, List.set_cons_succ]
                                refine kit6.take_y (i := 22) (v := ?_) rfl (by kernel_rfl) (by kernel_rfl) (by kernel_rfl) (fun _ _ _ h => h) (by rfl) (by assumption) ?_ ?_
                                rotate_left
                                · intro w hSw
                                  try dsimp only at hSw
                                  go_simp
                                  try with_reducible rfl
                                try simp only [Act.put, List.setIfInBounds_toArray, List.set_cons_zero, List.set_cons_succ]
                                refine kit6.take_y (i := 23) (v := ?_) rfl (by kernel_rfl) (by kernel_rfl) (by kernel_rfl) (fun _ _ _ h => h) (by rfl) (by assumption) ?_ ?_
                                rotate_left
                                · intro w hSw
                                  try dsimp only at hSw
                                  go_simp
                                  try with_reducible rfl
                                try simp only [Act.put, List.setIfInBounds_toArray, List.set_cons_zero, List.set_cons_succ]
                                refine kit6.take_y (i := 24) (v := ?_) rfl (by kernel_rfl) (by kernel_rfl) (by kernel_rfl) (fun _ _ _ h => h) (by rfl) (by assumption) ?_ ?_
                                rotate_left
                                · intro w hSw
                                  try dsimp only at hSw
                                  go_simp
                                  try with_reducible rfl
                                try simp only [Act.put, List.setIfInBounds_toArray, List.set_cons_zero, List.set_cons_succ]
                                refine kit6.take_y (i := 25) (v := ?_) rfl (by kernel_rfl) (by kernel_rfl) (by kernel_rfl) (fun _ _ _ h => h) (by rfl) (by assumption) ?_ ?_
                                rotate_left
                                · intro w hSw
                                  try dsimp only at hSw
                                  go_simp
                                  try with_reducible rfl
                                try simp only [Act.put, List.setIfInBounds_toArray, List.set_cons_zero, List.set_cons_succ]
                                refine kit6.take_y (i := 26) (v := ?_) rfl (by kernel_rfl) (by kernel_rfl) (by kernel_rfl) (fun _ _ _ h => h) (by rfl) (by assumption) ?_ ?_
                                rotate_left
                                · intro w hSw
                                  try dsimp only at hSw
                                  go_simp
                                  try with_reducible rfl
                                try simp only [Act.put, List.setIfInBounds_toArray, List.set_cons_zero, List.set_cons_succ]
                                refine kit6.take_y (i := 27) (v := ?_) rfl (by kernel_rfl) (by kernel_rfl) (by kernel_rfl) (fun _ _ _ h => h) (by rfl) (by assumption) ?_ ?_
                                rotate_left
                                · intro w hSw
                                  try dsimp only at hSw
                                  go_simp
                                  try with_reducible rfl
                                try simp only [Act.put, List.setIfInBounds_toArray, List.set_cons_zero, List.set_cons_succ]
                                refine kit6.take_y (i := 28) (v := ?_) rfl (by kernel_rfl) (by kernel_rfl) (by kernel_rfl) (fun _ _ _ h => h) (by rfl) (by assumption) ?_ ?_
                                rotate_left
                                · intro w hSw
                                  try dsimp only at hSw
                                  go_simp
                                  try with_reducible rfl
                                try simp only [Act.put, List.setIfInBounds_toArray, List.set_cons_zero, List.set_cons_succ]
                                refine kit6.take_y (i := 29) (v := ?_) rfl (by kernel_rfl) (by kernel_rfl) (by kernel_rfl) (fun _ _ _ h => h) (by rfl) (by assumption) ?_ ?_
                                rotate_left
                                · intro w hSw
                                  try dsimp only at hSw
                                  go_simp
                                  try with_reducible rfl
                                try simp only [Act.put, List.setIfInBounds_toArray, List.set_cons_zero, List.set_cons_succ]
                                refine kit6.take_y (i := 30) (v := ?_) rfl (by kernel_rfl) (by kernel_rfl) (by kernel_rfl) (fun _ _ _ h => h) (by rfl) (by assumption) ?_ ?_
                                rotate_left
                                · intro w hSw
                                  try dsimp only at hSw
                                  go_simp
                                  try with_reducible rfl
                                try simp only [Act.put, List.setIfInBounds_toArray, List.set_cons_zero, List.set_cons_succ]
                                refine kit6.take_y (i := 31) (v := ?_) rfl (by kernel_rfl) (by kernel_rfl) (by kernel_rfl) (fun _ _ _ h => h) (by rfl) (by assumption) ?_ ?_
                                rotate_left
                                · intro w hSw
                                  try dsimp only at hSw
                                  go_simp
                                  try with_reducible rfl
                                try simp only [Act.put, List.setIfInBounds_toArray, List.set_cons_zero, List.set_cons_succ]
                                refine kit6.take_y (i := 32) (v := ?_) rfl (by kernel_rfl) (by kernel_rfl) (by kernel_rfl) (fun _ _ _ h => h) (by rfl) (by assumption) ?_ ?_
                                rotate_left
                                · intro w hSw
                                  try dsimp only at hSw
                                  go_simp
                                  try with_reducible rfl
                                try simp only [Act.put, List.setIfInBounds_toArray, List.set_cons_zero, List.set_cons_succ]
                                refine kit6.take_y (i := 33) (v := ?_) rfl (by kernel_rfl) (by kernel_rfl) (by kernel_rfl) (fun _ _ _ h => h) (by rfl) (by assumption) ?_ ?_
                                rotate_left
                                · intro w hSw
                                  try dsimp only at hSw
                                  go_simp
                                  try with_reducible rfl
                                try simp only [Act.put, List.setIfInBounds_toArray, List.set_cons_zero, List.set_cons_succ]
                                refine kit6.take_y (i := 34) (v := ?_) rfl (by kernel_rfl) (by kernel_rfl) (by kernel_rfl) (fun _ _ _ h => h) (by rfl) (by assumption) ?_ ?_
                                rotate_left
                                · intro w hSw
                                  try dsimp only at hSw
                                  go_simp
                                  try with_reducible rfl
                                try simp only [Act.put, List.setIfInBounds_toArray, List.set_cons_zero, List.set_cons_succ]
                                refine kit6.take_y (i := 35) (v := ?_) rfl (by kernel_rfl) (by kernel_rfl) (by kernel_rfl) (fun _ _ _ h => h) (by rfl) (by assumption) ?_ ?_
                                rotate_left
                                · intro w hSw
                                  try dsimp only at hSw
                                  go_simp
                                  try with_reducible rfl
                                try simp only [Act.put, List.setIfInBounds_toArray, List.set_cons_zero, List.set_cons_succ]
                                refine kit6.take_y (i := 36) (v := ?_) rfl (by kernel_rfl) (by kernel_rfl) (by kernel_rfl) (fun _ _ _ h => h) (by rfl) (by assumption) ?_ ?_
                                rotate_left
                                · intro w hSw
                                  try dsimp only at hSw
                                  go_simp
                                  try with_reducible rfl
                                try simp only [Act.put, List.setIfInBounds_toArray, List.set_cons_zero, List.set_cons_succ]
                                refine kit6.take_y (i := 37) (v := ?_) rfl (by kernel_rfl) (by kernel_rfl) (by kernel_rfl) (fun _ _ _ h => h) (by rfl) (by assumption) ?_ ?_
                                rotate_left
                                · intro w hSw
                                  try dsimp only at hSw
                                  go_simp
                                  try with_reducible rfl
                                try simp only [Act.put, List.setIfInBounds_toArray, List.set_cons_zero, List.set_cons_succ]
                                refine kit6.take_y (i := 38) (v := ?_) rfl (by kernel_rfl) (by kernel_rfl) (by kernel_rfl) (fun _ _ _ h => h) (by rfl) (by assumption) ?_ ?_
                                rotate_left
                                · intro w hSw
                                  try dsimp only at hSw
                                  go_simp
                                  try with_reducible rfl
                                try simp only [Act.put, List.setIfInBounds_toArray, List.set_cons_zero, List.set_cons_succ]
                                refine kit6.take_y (i := 39) (v := ?_) rfl (by kernel_rfl) (by kernel_rfl) (by kernel_rfl) (fun _ _ _ h => h) (by rfl) (by assumption) ?_ ?_
                                rotate_left
                                · intro w hSw
                                  try dsimp only at hSw
                                  go_simp
                                  try with_reducible rfl
                                try simp only [Act.put, List.setIfInBounds_toArray, List.set_cons_zero, List.set_cons_succ]
                                refine kit6.take_y (i := 40) (v := ?_) rfl (by kernel_rfl) (by kernel_rfl) (by kernel_rfl) (fun _ _ _ h => h) (by rfl) (by assumption) ?_ ?_
                                rotate_left
                                · intro w hSw
                                  try dsimp only at hSw
                                  go_simp
                                  try with_reducible rfl
                                try simp only [Act.put, List.setIfInBounds_toArray, List.set_cons_zero, List.set_cons_succ]
                                refine kit6.take_y (i := 41) (v := ?_) rfl (by kernel_rfl) (by kernel_rfl) (by kernel_rfl) (fun _ _ _ h => h) (by rfl) (by assumption) ?_ ?_
                                rotate_left
                                · intro w hSw
                                  try dsimp only at hSw
                                  go_simp
                                  try with_reducible rfl
                                try simp only [Act.put, List.setIfInBounds_toArray, List.set_cons_zero, List.set_cons_succ]
                                refine kit6.take_y (i := 42) (v := ?_) rfl (by kernel_rfl) (by kernel_rfl) (by kernel_rfl) (fun _ _ _ h => h) (by rfl) (by assumption) ?_ ?_
                                rotate_left
                                · intro w hSw
                                  try dsimp only at hSw
                                  go_simp
                                  try with_reducible rfl
                                try simp only [Act.put, List.setIfInBounds_toArray, List.set_cons_zero, List.set_cons_succ]
                                refine kit6.take_c (i := 43) rfl (by kernel_rfl) (by rfl) (fun K hK => ?_)
                                go_simp
                                go_at_call 18; refine (HBY.out _ HBL.out).mono ?_; rintro e wb ⟨rfl, HLB⟩; have HBL2 := Lib.hid (below_step HBL.out HLB)
                                dsimp only
                                refine hK.out _ _ ⟨cell_step hHeld.1 HLB, cell_step hHeld.2.1 HLB, cell_step hHeld.2.2.1 HLB, cell_step hHeld.2.2.2.1 HLB, cell_step hHeld.2.2.2.2.1 HLB, cell_step hHeld.2.2.2.2.2.1 HLB, Nat.lt_of_lt_of_le hHeld.2.2.2.2.2.2 HLB.size⟩ (fun hHeld => ?_)
                                clear hK K
                                try simp only [Act.put, List.setIfInBounds_toArray, List.set_cons_zero, List.set_cons_succ]
                                refine kit6.take_y (i := 44) (v := ?_) rfl (by kernel_rfl) (by kernel_rfl) (by kernel_rfl) (fun _ _ _ h => h) (by rfl) (by assumption) ?_ ?_
                                rotate_left
                                · intro w hSw
                                  try dsimp only at hSw
                                  go_simp
                                  try with_reducible rfl
                                try simp only [Act.put, List.setIfInBounds_toArray, List.set_cons_zero, List.set_cons_succ]
                                refine kit6.take_y (i := 45) (v := ?_) rfl (by kernel_rfl) (by kernel_rfl) (by kernel_rfl) (fun _ _ _ h => h) (by rfl) (by assumption) ?_ ?_
                                rotate_left
                                · intro w hSw
                                  try dsimp only at hSw
                                  go_simp
                                  try with_reducible rfl
                                try simp only [Act.put, List.setIfInBounds_toArray, List.set_cons_zero, List.set_cons_succ]
                                refine kit6.take_y (i := 46) (v := ?_) rfl (by kernel_rfl) (by kernel_rfl) (by kernel_rfl) (fun _ _ _ h => h) (by rfl) (by assumption) ?_ ?_
                                rotate_left
                                · intro w hSw
                                  try dsimp only at hSw
                                  go_simp
                                  try with_reducible rfl
                                try simp only [Act.put, List.setIfInBounds_toArray, List.set_cons_zero, List.set_cons_succ]
                                refine kit6.take_y (i := 47) (v := ?_) rfl (by kernel_rfl) (by kernel_rfl) (by kernel_rfl) (fun _ _ _ h => h) (by rfl) (by assumption) ?_ ?_
                                rotate_left
                                · intro w hSw
                                  try dsimp only at hSw
                                  go_simp
                                  try with_reducible rfl
                                try simp only [Act.put, List.setIfInBounds_toArray, List.set_cons_zero, List.set_cons_succ]
                                refine wpAnyH_done (by kernel_rfl) ?_ _
                                go_wp2_with fail
                                go_roundw
                                case rel => exact ⟨j + 1, by omega, by go_num, rfl, by rw [HAT.out], HFIN.out _ HBL2.out⟩
                                case measure => simp [RowKit.intOf]; omega
                            | true =>
                              have HAT : Hid ((D.take (j + 1)).any (abv1 (cvv (xn, xv))) = false) := by simp only [Hid]; rw [HAS1.out]; rfl
                              clear HAS1
                              as_aux_lemma =>
                                go_upto_region 28 with fail
                                refine wp_region_held_drew (S := (fun w' => w'.cell? ⟨g, j * 5 + 2, none⟩ = some (.int .i64 yv.r) ∧ w'.cell? ⟨g, j * 5 + 3, none⟩ = some (.int .i64 yv.n) ∧ w'.cell? ⟨g, j * 5 + 4, none⟩ = some (.slice yv.a yv.l.length yv.c) ∧ w'.cell? ⟨g, m * 5 + 2, none⟩ = some (.int .i64 xv.r) ∧ w'.cell? ⟨g, m * 5 + 3, none⟩ = some (.int .i64 xv.n) ∧ w'.cell? ⟨g, m * 5 + 4, none⟩ = some (.slice xv.a xv.l.length xv.c) ∧ g < w'.heap.size)) (by kernel_rfl) ⟨h2, h3, h4, u2, u3, u4, hgx⟩ (fun hHeld => ?_)
                                refine kit6.take_y (i := 0) (v := ?_) rfl (by kernel_rfl) (by kernel_rfl) (by kernel_rfl) (fun _ _ _ h => h) (by rfl) (by assumption) ?_ ?_
                                rotate_left
                                · intro w hSw
                                  try dsimp only at hSw
                                  go_simp
                                  try with_reducible rfl
                                try simp only [Act.put, List.setIfInBounds_toArray, List.set_cons_zero, List.set_cons_succ]
                                refine kit6.take_y (i := 1) (v := ?_) rfl (by kernel_rfl) (by kernel_rfl) (by kernel_rfl) (fun _ _ _ h => h) (by rfl) (by assumption) ?_ ?_
                                rotate_left
                                · intro w hSw
                                  try dsimp only at hSw
                                  go_simp
                                  try with_reducible rfl
                                try simp only [Act.put, List.setIfInBounds_toArray, List.set_cons_zero, List.set_cons_succ]
                                refine kit6.take_y (i := 2) (v := ?_) rfl (by kernel_rfl) (by kernel_rfl) (by kernel_rfl) (fun _ _ _ h => h) (by rfl) (by assumption) ?_ ?_
                                rotate_left
                                · intro w hSw
                                  try dsimp only at hSw
                                  go_simp
                                  try with_reducible rfl
                                try simp only [Act.put, List.setIfInBounds_toArray, List.set_cons_zero, List.set_cons_succ]
                                refine kit6.take_y (i := 3) (v := ?_) rfl (by kernel_rfl) (by kernel_rfl) (by kernel_rfl) (fun _ _ _ h => h) (by rfl) (by assumption) ?_ ?_
                                rotate_left
                                · intro w hSw
                                  try dsimp only at hSw
                                  go_simp
                                  try with_reducible rfl
                                try simp only [Act.put, List.setIfInBounds_toArray, List.set_cons_zero, List.set_cons_succ]
                                refine kit6.take_y (i := 4) (v := ?_) rfl (by kernel_rfl) (by kernel_rfl) (by kernel_rfl) (fun _ _ _ h => h) (by rfl) (by assumption) ?_ ?_
                                rotate_left
                                · intro w hSw
                                  try dsimp only at hSw
                                  go_simp
                                  try with_reducible rfl
                                try simp only [Act.put, List.setIfInBounds_toArray, List.set_cons_zero, List.set_cons_succ]
                                refine kit6.take_y (i := 5) (v := ?_) rfl (by kernel_rfl) (by kernel_rfl) (by kernel_rfl) (fun _ _ _ h => h) (by rfl) (by assumption) ?_ ?_
                                rotate_left
                                · intro w hSw
                                  try dsimp only at hSw
                                  go_simp
                                  try with_reducible rfl
                                try simp only [Act.put, List.setIfInBounds_toArray, List.set_cons_zero, List.set_cons_succ]
                                refine kit6.take_y (i := 6) (v := ?_) rfl (by kernel_rfl) (by kernel_rfl) (by kernel_rfl) (fun _ _ _ h => h) (by rfl) (by assumption) ?_ ?_
                                rotate_left
                                · intro w hSw
                                  try dsimp only at hSw
                                  go_simp
                                  try with_reducible rfl
                                try simp only [Act.put, List.setIfInBounds_toArray, List.set_cons_zero, List.set_cons_succ]
                                refine kit6.take_y (i := 7) (v := ?_) rfl (by kernel_rfl) (by kernel_rfl) (by kernel_rfl) (fun _ _ _ h => h) (by rfl) (by assumption) ?_ ?_
                                rotate_left
                                · intro w hSw
                                  try dsimp only at hSw
                                  go_simp
                                  try with_reducible rfl
                                try simp only [Act.put, List.setIfInBounds_toArray, List.set_cons_zero, List.set_cons_succ]
                                refine kit6.take_y (i := 8) (v := ?_) rfl (by kernel_rfl) (by kernel_rfl) (by kernel_rfl) (fun _ _ _ h => h) (by rfl) (by assumption) ?_ ?_
                                rotate_left
                                · intro w hSw
                                  try dsimp only at hSw
                                  go_simp
                                  try with_reducible rfl
                                try simp only [Act.put, List.setIfInBounds_toArray, List.set_cons_zero, List.set_cons_succ]
                                refine kit6.take_y (i := 9) (v := ?_) rfl (by kernel_rfl) (by kernel_rfl) (by kernel_rfl) (fun _ _ _ h => h) (by rfl) (by assumption) ?_ ?_
                                rotate_left
                                · intro w hSw
                                  try dsimp only at hSw
                                  go_simp
                                  try with_reducible rfl
                                try simp only [Act.put, List.setIfInBounds_toArray, List.set_cons_zero, List.set_cons_succ]
                                refine kit6.take_y (i := 10) (v := ?_) rfl (by kernel_rfl) (by kernel_rfl) (by kernel_rfl) (fun _ _ _ h => h) (by rfl) (by assumption) ?_ ?_
                                rotate_left
                                · intro w hSw
                                  try dsimp only at hSw
                                  go_simp
                                  try with_reducible rfl
                                try simp only [Act.put, List.setIfInBounds_toArray, List.set_cons_zero, List.set_cons_succ]
                                refine kit6.take_y (i := 11) (v := ?_) rfl (by kernel_rfl) (by kernel_rfl) (by kernel_rfl) (fun _ _ _ h => h) (by rfl) (by assumption) ?_ ?_
                                rotate_left
                                · intro w hSw
                                  try dsimp only at hSw
                                  go_simp
                                  try with_reducible rfl
                                try simp only [Act.put, List.setIfInBounds_toArray, List.set_cons_zero, List.set_cons_succ]
                                refine kit6.take_y (i := 12) (v := ?_) rfl (by kernel_rfl) (by kernel_rfl) (by kernel_rfl) (fun _ _ _ h => h) (by rfl) (by assumption) ?_ ?_
                                rotate_left
                                · intro w hSw
                                  try dsimp only at hSw
                                  go_simp
                                  try with_reducible rfl
                                try simp only [Act.put, List.setIfInBounds_toArray, List.set_cons_zero, List.set_cons_succ]
                                refine kit6.take_y (i := 13) (v := ?_) rfl (by kernel_rfl) (by kernel_rfl) (by kernel_rfl) (fun _ _ _ h => h) (by rfl) (by assumption) ?_ ?_
                                rotate_left
                                · intro w hSw
                                  try dsimp only at hSw
                                  go_simp
                                  try with_reducible rfl
                                try simp only [Act.put, List.setIfInBounds_toArray, List.set_cons_zero, List.set_cons_succ]
                                refine kit6.take_c (i := 14) rfl (by kernel_rfl) (by rfl) (fun K hK => ?_)
                                go_simp
                                go_at_call 19; refine (HLE.out _).mono ?_; rintro e wl ⟨rfl, HLB⟩; have HBL := Lib.hid (below_step (below_drewN (Below.refl _ wx) 1) HLB)
                                dsimp only
                                refine hK.out _ _ ⟨cell_step hHeld.1 HLB, cell_step hHeld.2.1 HLB, cell_step hHeld.2.2.1 HLB, cell_step hHeld.2.2.2.1 HLB, cell_step hHeld.2.2.2.2.1 HLB, cell_step hHeld.2.2.2.2.2.1 HLB, Nat.lt_of_lt_of_le hHeld.2.2.2.2.2.2 HLB.size⟩ (fun hHeld => ?_)
                                clear hK K
                                try simp only [Act.put, List.setIfInBounds_toArray, List.set_cons_zero, List.set_cons_succ]
                                refine kit6.take_y (i := 15) (v := ?_) rfl (by kernel_rfl) (by kernel_rfl) (by kernel_rfl) (fun _ _ _ h => h) (by rfl) (by assumption) ?_ ?_
                                rotate_left
                                · intro w hSw
                                  try dsimp only at hSw
                                  go_simp
                                  try with_reducible rfl
                                try simp only [Act.put, List.setIfInBounds_toArray, List.set_cons_zero, List.set_cons_succ]
                                refine kit6.take_y (i := 16) (v := ?_) rfl (by kernel_rfl) (by kernel_rfl) (by kernel_rfl) (fun _ _ _ h => h) (by rfl) (by assumption) ?_ ?_
                                rotate_left
                                · intro w hSw
                                  try dsimp only at hSw
                                  go_simp
                                  try with_reducible rfl
                                try simp only [Act.put, List.setIfInBounds_toArray, List.set_cons_zero, List.set_cons_succ]
                                refine kit6.take_y (i := 17) (v := ?_) rfl (by kernel_rfl) (by kernel_rfl) (by kernel_rfl) (fun _ _ _ h => h) (by rfl) (by assumption) ?_ ?_
                                rotate_left
                                · intro w hSw
                                  try dsimp only at hSw
                                  go_simp
                                  try with_reducible rfl
                                try simp only [Act.put, List.setIfInBounds_toArray, List.set_cons_zero, List.set_cons_succ]
                                refine kit6.take_y (i := 18) (v := ?_) rfl (by kernel_rfl) (by kernel_rfl) (by kernel_rfl) (fun _ _ _ h => h) (by rfl) (by assumption) ?_ ?_
                                rotate_left
                                · intro w hSw
                                  try dsimp only at hSw
                                  go_simp
                                  try with_reducible rfl
                                try simp only [Act.put, List.setIfInBounds_toArray, List.set_cons_zero, List.set_cons_succ]
                                refine kit6.take_y (i := 19) (v := ?_) rfl (by kernel_rfl) (by kernel_rfl) (by kernel_rfl) (fun _ _ _ h => h) (by rfl) (by assumption) ?_ ?_
                                rotate_left
                                · intro w hSw
                                  try dsimp only at hSw
                                  go_simp
                                  try with_reducible rfl
                                try simp only [Act.put, List.setIfInBounds_toArray, List.set_cons_zero, List.set_cons_succ]
                                refine kit6.take_y (i := 20) (v := ?_) rfl (by kernel_rfl) (by kernel_rfl) (by kernel_rfl) (fun _ _ _ h => h) (by rfl) (by assumption) ?_ ?_
                                rotate_left
                                · intro w hSw
                                  try dsimp only at hSw
                                  go_simp
                                  try with_reducible rfl
                                try simp only [Act.put, List.setIfInBounds_toArray, List.set_cons_zero, List.set_cons_succ]
                                refine kit6.take_y (i := 21) (v := ?_) rfl (by kernel_rfl) (by kernel_rfl) (by kernel_rfl) (fun _ _ _ h => h) (by rfl) (by assumption) ?_ ?_
                                rotate_left
                                · intro w hSw
                                  try dsimp only at hSw
                                  go_simp
                                  try with_reducible rfl
                                try simp only [Act.put, List.setIfInBounds_toArray, List.set_cons_zero, List.set_cons_succ]
                                refine kit6.take_y (i := 22) (v := ?_) rfl (by kernel_rfl) (by kernel_rfl) (by kernel_rfl) (fun _ _ _ h => h) (by rfl) (by assumption) ?_ ?_
                                rotate_left
                                · intro w hSw
                                  try dsimp only at hSw
                                  go_simp
                                  try with_reducible rfl
                                try simp only [Act.put, List.setIfInBounds_toArray, List.set_cons_zero, List.set_cons_succ]
                                refine kit6.take_y (i := 23) (v := ?_) rfl (by kernel_rfl) (by kernel_rfl) (by kernel_rfl) (fun _ _ _ h => h) (by rfl) (by assumption) ?_ ?_
                                rotate_left
                                · intro w hSw
                                  try dsimp only at hSw
                                  go_simp
                                  try with_reducible rfl
                                try simp only [Act.put, List.setIfInBounds_toArray, List.set_cons_zero, List.set_cons_succ]
                                refine kit6.take_y (i := 24) (v := ?_) rfl (by kernel_rfl) (by kernel_rfl) (by kernel_rfl) (fun _ _ _ h => h) (by rfl) (by assumption) ?_ ?_
                                rotate_left
                                · intro w hSw
                                  try dsimp only at hSw
                                  go_simp
                                  try with_reducible rfl
                                try simp only [Act.put, List.setIfInBounds_toArray, List.set_cons_zero, List.set_cons_succ]
                                refine kit6.take_y (i := 25) (v := ?_) rfl (by kernel_rfl) (by kernel_rfl) (by kernel_rfl) (fun _ _ _ h => h) (by rfl) (by assumption) ?_ ?_
                                rotate_left
                                · intro w hSw
                                  try dsimp only at hSw
                                  go_simp
                                  try with_reducible rfl
                                try simp only [Act.put, List.setIfInBounds_toArray, List.set_cons_zero, List.set_cons_succ]
                                refine kit6.take_y (i := 26) (v := ?_) rfl (by kernel_rfl) (by kernel_rfl) (by kernel_rfl) (fun _ _ _ h => h) (by rfl) (by assumption) ?_ ?_
                                rotate_left
                                · intro w hSw
                                  try dsimp only at hSw
                                  go_simp
                                  try with_reducible rfl
                                try simp only [Act.put, List.setIfInBounds_toArray, List.set_cons_zero, List.set_cons_succ]
                                refine kit6.take_y (i := 27) (v := ?_) rfl (by kernel_rfl) (by kernel_rfl) (by kernel_rfl) (fun _ _ _ h => h) (by rfl) (by assumption) ?_ ?_
                                rotate_left
                                · intro w hSw
                                  try dsimp only at hSw
                                  go_simp
                                  try with_reducible rfl
                                try simp only [Act.put, List.setIfInBounds_toArray, List.set_cons_zero, List.set_cons_succ]
                                refine kit6.take_y (i := 28) (v := ?_) rfl (by kernel_rfl) (by kernel_rfl) (by kernel_rfl) (fun _ _ _ h => h) (by rfl) (by assumption) ?_ ?_
                                rotate_left
                                · intro w hSw
                                  try dsimp only at hSw
                                  go_simp
                                  try with_reducible rfl
                                try simp only [Act.put, List.setIfInBounds_toArray, List.set_cons_zero, List.set_cons_succ]
                                refine kit6.take_y (i := 29) (v := ?_) rfl (by kernel_rfl) (by kernel_rfl) (by kernel_rfl) (fun _ _ _ h => h) (by rfl) (by assumption) ?_ ?_
                                rotate_left
                                · intro w hSw
                                  try dsimp only at hSw
                                  go_simp
                                  try with_reducible rfl
                                try simp only [Act.put, List.setIfInBounds_toArray, List.set_cons_zero, List.set_cons_succ]
                                refine kit6.take_y (i := 30) (v := ?_) rfl (by kernel_rfl) (by kernel_rfl) (by kernel_rfl) (fun _ _ _ h => h) (by rfl) (by assumption) ?_ ?_
                                rotate_left
                                · intro w hSw
                                  try dsimp only at hSw
                                  go_simp
                                  try with_reducible rfl
                                try simp only [Act.put, List.setIfInBounds_toArray, List.set_cons_zero, List.set_cons_succ]
                                refine kit6.take_y (i := 31) (v := ?_) rfl (by kernel_rfl) (by kernel_rfl) (by kernel_rfl) (fun _ _ _ h => h) (by rfl) (by assumption) ?_ ?_
                                rotate_left
                                · intro w hSw
                                  try dsimp only at hSw
                                  go_simp
                                  try with_reducible rfl
                                try simp only [Act.put, List.setIfInBounds_toArray, List.set_cons_zero, List.set_cons_succ]
                                refine kit6.take_y (i := 32) (v := ?_) rfl (by kernel_rfl) (by kernel_rfl) (by kernel_rfl) (fun _ _ _ h => h) (by rfl) (by assumption) ?_ ?_
                                rotate_left
                                · intro w hSw
                                  try dsimp only at hSw
                                  go_simp
                                  try with_reducible rfl
                                try simp only [Act.put, List.setIfInBounds_toArray, List.set_cons_zero, List.set_cons_succ]
                                refine kit6.take_y (i := 33) (v := ?_) rfl (by kernel_rfl) (by kernel_rfl) (by kernel_rfl) (fun _ _ _ h => h) (by rfl) (by assumption) ?_ ?_
                                rotate_left
                                · intro w hSw
                                  try dsimp only at hSw
                                  go_simp
                                  try with_reducible rfl
                                try simp only [Act.put, List.setIfInBounds_toArray, List.set_cons_zero, List.set_cons_succ]
                                refine kit6.take_y (i := 34) (v := ?_) rfl (by kernel_rfl) (by kernel_rfl) (by kernel_rfl) (fun _ _ _ h => h) (by rfl) (by assumption) ?_ ?_
                                rotate_left
                                · intro w hSw
                                  try dsimp only at hSw
                                  go_simp
                                  try with_reducible rfl
                                try simp only [Act.put, List.setIfInBounds_toArray, List.set_cons_zero, List.set_cons_succ]
                                refine kit6.take_y (i := 35) (v := ?_) rfl (by kernel_rfl) (by kernel_rfl) (by kernel_rfl) (fun _ _ _ h => h) (by rfl) (by assumption) ?_ ?_
                                rotate_left
                                · intro w hSw
                                  try dsimp only at hSw
                                  go_simp
                                  try with_reducible rfl
                                try simp only [Act.put, List.setIfInBounds_toArray, List.set_cons_zero, List.set_cons_succ]
                                refine kit6.take_y (i := 36) (v := ?_) rfl (by kernel_rfl) (by kernel_rfl) (by kernel_rfl) (fun _ _ _ h => h) (by rfl) (by assumption) ?_ ?_
                                rotate_left
                                · intro w hSw
                                  try dsimp only at hSw
                                  go_simp
                                  try with_reducible rfl
                                try simp only [Act.put, List.setIfInBounds_toArray, List.set_cons_zero, List.set_cons_succ]
                                refine kit6.take_y (i := 37) (v := ?_) rfl (by kernel_rfl) (by kernel_rfl) (by kernel_rfl) (fun _ _ _ h => h) (by rfl) (by assumption) ?_ ?_
                                rotate_left
                                · intro w hSw
                                  try dsimp only at hSw
                                  go_simp
                                  try with_reducible rfl
                                try simp only [Act.put, List.setIfInBounds_toArray, List.set_cons_zero, List.set_cons_succ]
                                refine kit6.take_y (i := 38) (v := ?_) rfl (by kernel_rfl) (by kernel_rfl) (by kernel_rfl) (fun _ _ _ h => h) (by rfl) (by assumption) ?_ ?_
                                rotate_left
                                · intro w hSw
                                  try dsimp only at hSw
                                  go_simp
                                  try with_reducible rfl
                                try simp only [Act.put, List.setIfInBounds_toArray, List.set_cons_zero, List.set_cons_succ]
                                refine kit6.take_y (i := 39) (v := ?_) rfl (by kernel_rfl) (by kernel_rfl) (by kernel_rfl) (fun _ _ _ h => h) (by rfl) (by assumption) ?_ ?_
                                rotate_left
                                · intro w hSw
                                  try dsimp only at hSw
                                  go_simp
                                  try with_reducible rfl
                                try simp only [Act.put, List.setIfInBounds_toArray, List.set_cons_zero, List.set_cons_succ]
                                refine kit6.take_y (i := 40) (v := ?_) rfl (by kernel_rfl) (by kernel_rfl) (by kernel_rfl) (fun _ _ _ h => h) (by rfl) (by assumption) ?_ ?_
                                rotate_left
                                · intro w hSw
                                  try dsimp only at hSw
                                  go_simp
                                  try with_reducible rfl
                                try simp only [Act.put, List.setIfInBounds_toArray, List.set_cons_zero, List.set_cons_succ]
                                refine kit6.take_y (i := 41) (v := ?_) rfl (by kernel_rfl) (by kernel_rfl) (by kernel_rfl) (fun _ _ _ h => h) (by rfl) (by assumption) ?_ ?_
                                rotate_left
                                · intro w hSw
                                  try dsimp only at hSw
                                  go_simp
                                  try with_reducible rfl
                                try simp only [Act.put, List.setIfInBounds_toArray, List.set_cons_zero, List.set_cons_succ]
                                refine kit6.take_y (i := 42) (v := ?_) rfl (by kernel_rfl) (by kernel_rfl) (by kernel_rfl) (fun _ _ _ h => h) (by rfl) (by assumption) ?_ ?_
                                rotate_left
                                · intro w hSw
                                  try dsimp only at hSw
                                  go_simp
                                  try with_reducible rfl
                                try simp only [Act.put, List.setIfInBounds_toArray, List.set_cons_zero, List.set_cons_succ]
                                refine kit6.take_c (i := 43) rfl (by kernel_rfl) (by rfl) (fun K hK => ?_)
                                go_simp
                                go_at_call 18; refine (HBY.out _ HBL.out).mono ?_; rintro e wb ⟨rfl, HLB⟩; have HBL2 := Lib.hid (below_step HBL.out HLB)
                                dsimp only
                                refine hK.out _ _ ⟨cell_step hHeld.1 HLB, cell_step hHeld.2.1 HLB, cell_step hHeld.2.2.1 HLB, cell_step hHeld.2.2.2.1 HLB, cell_step hHeld.2.2.2.2.1 HLB, cell_step hHeld.2.2.2.2.2.1 HLB, Nat.lt_of_lt_of_le hHeld.2.2.2.2.2.2 HLB.size⟩ (fun hHeld => ?_)
                                clear hK K
                                try simp only [Act.put, List.setIfInBounds_toArray, List.set_cons_zero, List.set_cons_succ]
                                refine kit6.take_y (i := 44) (v := ?_) rfl (by kernel_rfl) (by kernel_rfl) (by kernel_rfl) (fun _ _ _ h => h) (by rfl) (by assumption) ?_ ?_
                                rotate_left
                                · intro w hSw
                                  try dsimp only at hSw
                                  go_simp
                                  try with_reducible rfl
                                try simp only [Act.put, List.setIfInBounds_toArray, List.set_cons_zero, List.set_cons_succ]
                                refine kit6.take_y (i := 45) (v := ?_) rfl (by kernel_rfl) (by kernel_rfl) (by kernel_rfl) (fun _ _ _ h => h) (by rfl) (by assumption) ?_ ?_
                                rotate_left
                                · intro w hSw
                                  try dsimp only at hSw
                                  go_simp
                                  try with_reducible rfl
                                try simp only [Act.put, List.setIfInBounds_toArray, List.set_cons_zero, List.set_cons_succ]
                                refine kit6.take_y (i := 46) (v := ?_) rfl (by kernel_rfl) (by kernel_rfl) (by kernel_rfl) (fun _ _ _ h => h) (by rfl) (by assumption) ?_ ?_
                                rotate_left
                                · intro w hSw
                                  try dsimp only at hSw
                                  go_simp
                                  try with_reducible rfl
                                try simp only [Act.put, List.setIfInBounds_toArray, List.set_cons_zero, List.set_cons_succ]
                                refine kit6.take_y (i := 47) (v := ?_) rfl (by kernel_rfl) (by kernel_rfl) (by kernel_rfl) (fun _ _ _ h => h) (by rfl) (by assumption) ?_ ?_
                                rotate_left
                                · intro w hSw
                                  try dsimp only at hSw
                                  go_simp
                                  try with_reducible rfl
                                try simp only [Act.put, List.setIfInBounds_toArray, List.set_cons_zero, List.set_cons_succ]
                                refine wpAnyH_done (by kernel_rfl) ?_ _
                                go_wp2_with fail
                                go_roundw
                                case rel => exact ⟨j + 1, by omega, by go_num, rfl, by rw [HAT.out], HFIN.out _ HBL2.out⟩
                                case measure => simp [RowKit.intOf]; omega
                  · obtain rfl : j = cs.length := by omega
                    have hDl : D.take cs.length = D := by rw [← HDL.out]; exact List.take_length
                    rw [hDl] at hNl ⊢
                    have hlp : lastP nodes D cl (cvv (xn, xv)) = (decide (nodes < 2 * (((D.filter (fun y => balE (cvv (xn, xv)) y && y.2.d == cl)).length : Nat) : Int)) && !(D.any (abv1 (cvv (xn, xv))))) := rfl
                    rw [hlp] at HAS
                    obtain ⟨N, hN⟩ : ∃ N, N = (D.filter (fun y => balE (cvv (xn, xv)) y && y.2.d == cl)).length := ⟨_, rfl⟩
                    obtain ⟨AB, hAB⟩ : ∃ AB, AB = D.any (abv1 (cvv (xn, xv))) := ⟨_, rfl⟩
                    obtain ⟨LT, hLT⟩ : ∃ LT, LT = (D.take m).any (lastP nodes D cl) := ⟨_, rfl⟩
                    rw [← hN] at hNl
                    rw [← hN, ← hAB, ← hLT] at HAS
                    rw [← hN, ← hAB, ← hLT]
                    have hw2 : IntKind.i64.wrap (2 * (N : Int)) = 2 * (N : Int) := IntWalk.i64_in _ (by omega)
                    clear hDl hlp hN hAB hLT
                    cases LT with
                    | true =>
                      have HAT : Hid ((D.take (m + 1)).any (lastP nodes D cl) = true) := by simp only [Hid]; rw [HAS.out]; rfl
                      clear HAS
                      as_aux_lemma =>
                        go_wp2_with fail
                        go_roundw
                        case rel => exact ⟨m + 1, by omega, by go_num, by rw [HAT.out], HBJ⟩
                        case measure => simp [RowKit.intOf]; omega
                    | false =>
                      cases hq : decide (nodes < 2 * (N : Int)) with
                      | false =>
                        rw [hq] at HAS
                        have HAT : Hid ((D.take (m + 1)).any (lastP nodes D cl) = false) := by simp only [Hid]; rw [HAS.out]; rfl
                        clear HAS
                        as_aux_lemma =>
                          go_wp2_with fail
                          go_roundw
                          case rel => exact ⟨m + 1, by omega, by go_num, by rw [HAT.out], HBJ⟩
                          case measure => simp [RowKit.intOf]; omega
                      | true =>
                        rw [hq] at HAS
                        have HAT : Hid ((D.take (m + 1)).any (lastP nodes D cl) = !AB) := by simp only [Hid]; rw [HAS.out]; cases AB <;> rfl
                        clear HAS
                        cases AB with
                        | true =>
                          go_wp2_with fail
                          go_roundw
                          case rel => exact ⟨m + 1, by omega, by go_num, by rw [HAT.out]; rfl, HBJ⟩
                          case measure => simp [RowKit.intOf]; omega
                        | false =>
                          go_wp2_with fail
                          go_roundw
                          case rel => exact ⟨m + 1, by omega, by go_num, by rw [HAT.out]; rfl, HBJ⟩
                          case measure => simp [RowKit.intOf]; omega
              · obtain rfl : m = cs.length := by omega
                have hDl : D.take cs.length = D := by rw [← HDL.out]; exact List.take_length
                rw [hDl]
                have hbm : Below w6.heap.size w6 wm := below_step HB8.out HBM.out
                cases hla : D.any (lastP nodes D cl) with
                | false =>
                  have HBM6 := Lib.hid hbm
                  clear hbm hDl hla
                  go_wp2_with fail
                  go_roundw
                  case rel => exact ⟨k + 1, by omega, by go_num, HBM6⟩
                  case measure => simp [RowKit.intOf]; omega
                | true =>
                  rw [HD.out] at hla
                  have hkp := keeps HRt.out (fun p => decide (p.node ≠ wo)) (by rw [← HM.out]; exact HZ.out) hla
                  rw [← HM.out] at hkp
                  obtain ⟨hk1, hk2, hk3⟩ := hkp
                  rw [← HEO.out] at hk2
                  obtain ⟨n0, hn0⟩ : ∃ n0 : Nat, s = (n0 : Int) + 1 := ⟨(s - 1).toNat, by omega⟩
                  have hn0l : n0 < eo.length := by omega
                  have hRow := out_row (HOO.out.below hbm) HOLM.out
                  obtain ⟨g, off, hao, hgz, x0, x1⟩ := hRow.cells n0 hn0l
                  obtain ⟨hlie, -, hllen⟩ := hRow.lie _ (List.getElem_mem hn0l)
                  have hdat : le eo[n0] = (s, cl) := by
                    have h1 : (eo.map le)[n0]? = (openL nodes 1 M)[n0]? := by rw [HOO.out.data]
                    have h2 : openL nodes 1 M = ents M 1 (openN 1 M) := by unfold openL; rw [if_pos HZ.out]
                    rw [List.getElem?_eq_getElem (by rw [List.length_map]; exact hn0l), List.getElem_map, h2] at h1
                    have h3 : n0 < (ents M 1 (openN 1 M)).length := by rw [ents_len, ← HEO.out]; exact hn0l
                    rw [List.getElem?_eq_getElem h3, Option.some.injEq] at h1
                    rw [h1]
                    have h4 : (1 : Int) + (n0 : Int) = s := by omega
                    simp [ents, h4, hk3]
                  have hs1 : eo[n0].s = s := congrArg Prod.fst hdat
                  have hl1 : eo[n0].l = cl := congrArg Prod.snd hdat
                  rw [hs1] at x0
                  rw [hl1] at x1 hlie
                  obtain ⟨oa, hoa⟩ : ∃ oa, oa = eo[n0].a := ⟨_, rfl⟩
                  obtain ⟨oc, hoc⟩ : ∃ oc, oc = eo[n0].c := ⟨_, rfl⟩
                  rw [← hoa] at x1 hlie
                  rw [← hoc] at x1
                  have hb7m : Below w7.heap.size w7 wm := below_step HB78.out HBM.out
                  obtain ⟨y0, y1, fy0, fy1, yz⟩ := blk2 (hp_step HN7.out hb7m)
                  have hbd : Below wm.heap.size wm wm.drew := below_drewN (Below.refl _ wm) 1
                  have HBT := Lib.hid (bytes_any cl cl oa ca oc cd wm.drew (by omega) (hlie.below hbd) (HCLI.out wm.drew (below_step hb7m hbd)))
                  have hsb : sameB cl cl = true := by simp [sameB]
                  rw [hsb] at HBT
                  have HBD := Lib.hid (below_step hbm hbd)
                  have hwr : IntKind.i64.wrap (s - 1) = (n0 : Int) := by rw [IntWalk.i64_in _ (by omega)]; omega
                  have t5 : decide ((eo.length : Int) < s) = false := decide_eq_false (by omega)
                  have t6 : ¬ (eo.length : Int) < s := by omega
                  have hom : eo.length ≤ 9223372036854775807 := by omega
                  obtain rfl : ao = some ⟨g, off, none⟩ := hao
                  have hgd : g < wm.drew.heap.size := hgz
                  clear hbm hDl hla hk1 hk2 hk3 hRow hlie hdat hs1 hl1 hoa hoc hb7m hbd hsb hn0
                  go_wp2_with fail
                  go_still_tail 27, (by kernel_rfl)
                  change wpList _ _ _ _ _ wm.drew
                  go_wp2_with fail
                  refine HBT.out.mono ?_; rintro e wb ⟨rfl, hbb⟩
                  have HBB := Lib.hid (below_step HBD.out hbb)
                  clear hbb
                  go_wp2_with fail
                  go_roundw
                  case rel => exact ⟨k + 1, by omega, by go_num, HBB⟩
                  case measure => simp [RowKit.intOf]; omega
          · obtain rfl : k = ec.length := by omega
            go_wp2_with fail
            go_ret
            exact ⟨rfl, below_step HB6.out HB.out⟩
theorem lawWalk {H : Type} (enc : TypeId × Value → H) : LawWalk enc Try.prog 4 Try.f4 (fun _ => True) := by
  intro W base args ds p hval hA hsz _
  rw [Try.params4] at hA hval hsz
  obtain ⟨v0, vs0, d0, ds0, p0, q0, hargs, rfl, rfl, h0, r0⟩ := trodAll_cons hA
  obtain ⟨v1, vs1, d1, ds1, p1, q1, rfl, rfl, rfl, h1, r1⟩ := trodAll_cons r0
  obtain ⟨v2, vs2, d2, ds2, p2, q2, rfl, rfl, rfl, h2, r2⟩ := trodAll_cons r1
  obtain ⟨rfl, rfl, rfl⟩ := trodAll_nil r2
  obtain rfl : args = #[v0, v1, v2] := Array.toList_inj.1 hargs
  obtain ⟨n0, rfl, rfl, rfl, w0⟩ := open_int Try.underlying3 (hval 0 3 v0 rfl rfl) h0
  obtain ⟨a1, l1, c1, rfl, hP1⟩ := chl.open_prs (j := 1) (hval 1 22 v1 rfl rfl) h1 hsz rfl rfl
  obtain ⟨n2, rfl, rfl, rfl, w2⟩ := open_int Try.underlying3 (hval 2 3 v2 rfl rfl) h2
  exact keeps_ok W n0 a1 c1 l1 n2 hP1

theorem own : ownKnob Try.prog.godebug = none := by kernel_rfl
theorem laidOut : laidOutB Try.prog = true := by kernel_rfl

set_option maxRecDepth 100000 in
theorem lifted (os : Os) (started : os.Started) (H : Type) (enc : TypeId × Value → H) :
    ReturnsInHanded {} Try.checked os 4 .any (Rows.chooseKeepsSpec.pre6 enc Try.prog Try.f4 Rows.chooseKeepsRow.domain false) (Rows.chooseKeepsSpec.post enc Try.prog Try.f4 false true false false) := by
  refine returnsInHanded_of_change_sized (C := Try.checked) own started (by kernel_rfl) Try.func4
    (ChangeSpec.witness6 (enc := enc) (C := Try.checked) false ⟨#[], #[.int .i64 0, .slice none 0 0, .int .i64 0], []⟩ 8 (by kernel_rfl) (by kernel_rfl) (by kernel_rfl) (by kernel_rfl)) ?_
  intro W base args ds gs before hval hW hcnd hsz _
  exact law_post (C := Try.checked) laidOut (fun ds h => by match ds, h with | [_, _, _], _ => rfl) 4 rfl Try.underlying4 rfl (by kernel_rfl) hval hW hsz trivial (lawWalk enc)

theorem proved : Rows.ChooseKeepsSaid :=
  OpenClaim.holds_of_wide 4 Try.f4 rfl rfl rfl rfl rfl rfl rfl ⟨rfl, rfl, rfl, rfl, rfl⟩ rfl rfl rfl rfl rfl (by kernel_rfl) Try.func4 (by kernel_rfl)
    (of_decide_eq_true (by kernel_rfl)) (by unfold Func.isWrapper; first | (rw [if_pos (by decide +kernel)]; kernel_rfl) | (rw [if_neg (by decide +kernel)]; exact ⟨rfl, rfl⟩))
    (fun os started H enc _ => lifted os started H enc)
#print axioms proved
end Go.Proofs.Ytodoncmielfbeaa.chooseKeeps

