/-
  AcceptPromise: behind a promise nothing lower is accepted or promised, and the promise tells all votes from the slot on; what is accepted then is told by the next.
-/
import Derived.Test.YtafjmedjaepimaaAccL
import Derived.Test.YtafjmedjaepimaaKit6
import Derived.Test.YtafjmedjaepimaaChecked
import Derived.Test.YtafjmedjaepimaaRows
import Derived.Deep.CutBlock
import Derived.Deep.RegionHeld3
namespace Go.Proofs.Ytafjmedjaepimaa.acceptPromise
open Go.ChangeShapes Go.WideShapes Go.ChangeAt Go.RowKit Go.Joins
open Go.Proofs.Ytafjmedjaepimaa.kit Go.Proofs.Ytafjmedjaepimaa.mapkit Go.Proofs.Ytafjmedjaepimaa.byt Go.Proofs.Ytafjmedjaepimaa.own Go.Proofs.Ytafjmedjaepimaa.accd Go.Proofs.Ytafjmedjaepimaa.acca Go.Proofs.Ytafjmedjaepimaa.accb Go.Proofs.Ytafjmedjaepimaa.acck Go.Proofs.Ytafjmedjaepimaa.acce Go.Proofs.Ytafjmedjaepimaa.accf Go.Proofs.Ytafjmedjaepimaa.accg Go.Proofs.Ytafjmedjaepimaa.acch Go.Proofs.Ytafjmedjaepimaa.acci Go.Proofs.Ytafjmedjaepimaa.accj Go.Proofs.Ytafjmedjaepimaa.accr Go.Proofs.Ytafjmedjaepimaa.accl
set_option linter.unusedVariables false
set_option linter.unusedSimpArgs false
set_option maxHeartbeats 4000000
set_option maxRecDepth 100000

theorem neBallot (w : World) (a b c d : Int) : (binOp .neq 28 (.agg #[.int .i64 a, .int .i64 b]) (.agg #[.int .i64 c, .int .i64 d])).run Try.prog w = .ok (.bool (!(a == c && b == d))) w := by
  cases h : (a == c) <;> cases h2 : (b == d) <;> go_simp
/-- How many of the first m are for slots from d on. -/
def cntF (vs : List V4) (d : Int) (m : Nat) : Nat := (from4 (vs.take m) d).length
theorem cnt_step (vs : List V4) (d : Int) (m : Nat) (hm : m < vs.length) : cntF vs d (m + 1) = if d ≤ vs[m].s then cntF vs d m + 1 else cntF vs d m := by
  rw [cntF, List.take_succ_eq_append_getElem hm, from4, List.filter_append, List.length_append]
  by_cases h : d ≤ vs[m].s
  · simp [h, cntF, from4]
  · simp [h, cntF, from4]
theorem cnt_at (vs : List V4) (d : Int) (m : Nat) (hm : m < vs.length) (h : d ≤ vs[m].s) : (from4 vs d)[cntF vs d m]? = some vs[m] := by
  have e : from4 vs d = from4 (vs.take m) d ++ (vs[m] :: from4 (vs.drop (m + 1)) d) := by
    have e1 : vs = vs.take m ++ vs[m] :: vs.drop (m + 1) := by rw [← List.drop_eq_getElem_cons hm]; exact (List.take_append_drop m vs).symm
    have e2 : from4 vs d = from4 (vs.take m ++ vs[m] :: vs.drop (m + 1)) d := by rw [← e1]
    rw [e2, from4, List.filter_append, List.filter_cons]
    simp [h, from4]
  rw [e, cntF, List.getElem?_append_right (Nat.le_refl _), Nat.sub_self]
  rfl
theorem cnt_all (vs : List V4) (d : Int) : cntF vs d vs.length = (from4 vs d).length := by rw [cntF, List.take_length]
/-- What is told from a vote's slot on begins with it. -/
theorem from_put (vs : List V4) (v : V4) : ∃ rest, from4 (put4 vs v) v.s = v :: rest := by
  refine ⟨from4 (vs.filter (fun x => v.s < x.s)) v.s, ?_⟩
  rw [put4, from4, List.filter_append, List.filter_cons]
  have e : (vs.filter (fun x => x.s < v.s)).filter (fun x => decide (v.s ≤ x.s)) = [] := by
    rw [List.filter_eq_nil_iff]
    intro x hx
    have := (List.mem_filter.1 hx).2
    simp at this ⊢
    omega
  rw [e]
  simp [from4]
/-- What is below a promise is refused. -/
theorem below_prep {A : AS} {lr ln : Int} (h : lessB lr ln A.r A.n = true) : prepE A lr ln ≠ 0 := by
  intro hE
  have := (prep0 hE).2
  rw [h] at this
  simp at this
theorem below_acc {A : AS} {v : V4} (h : lessB v.r v.n A.r A.n = true) : accE A.r A.n A.first v ≠ 0 := by
  intro hE
  have := (acc0 hE).2.2.1
  rw [h] at this
  simp at this

theorem promise_ok (w : World) (a : Option Addr) (l : List OpV) (cap : Nat) (hl : l.length ≤ 9223372036854775807) (hat : RowsAt w a 5 (l.map ocells)) (hok : ∀ k (hk : k < l.length), GoodO w (l[k]))
    (r n d lr ln slot : Int) (va : Option Addr) (vl : List Nat) (vc : Nat) (hs1 : -9223372036854775808 ≤ slot) (hs2 : slot ≤ 9223372036854775807) (hv : Lie w va (bcells vl)) (hvn : va = none → vl.length = 0 ∧ vc = 0) (hvl : vl.length ≤ 9223372036854775807) :
    Calls Try.prog 6 #[.slice a l.length cap, .agg #[.int .i64 r, .int .i64 n], .int .i64 d, .agg #[.int .i64 lr, .int .i64 ln], .int .i64 slot, .slice va vl.length vc] w fun e w' => e = .returned (.bool true) ∧ Below w.heap.size w w' := by
  obtain ⟨wA, hwA⟩ : ∃ wA, wA = (w.alloc (.cells #[.int .i64 r, .int .i64 n] 28)).alloc (.cells #[.int .i64 lr, .int .i64 ln] 28) := ⟨_, rfl⟩
  have hbA : Below w.heap.size w wA := by rw [hwA]; exact below_new2 _ _ _
  have hn := new2 w (.cells #[.int .i64 r, .int .i64 n] 28) (.cells #[.int .i64 lr, .int .i64 ln] 28)
  rw [← hwA] at hn
  obtain ⟨n0, n1, hsA⟩ := hn
  obtain ⟨pb, hpb⟩ : ∃ pb, pb = w.heap.size := ⟨_, rfl⟩
  have HPB := Lib.hid hpb
  rw [← hpb] at n0 n1
  have HN0 := Lib.hid n0
  have HN1 := Lib.hid n1
  have HBA := Lib.hid hbA
  have HW := Lib.hid hwA
  have hqe := fun w => neBallot w r n r n
  simp only [beq_self_eq_true, Bool.and_self, Bool.not_true] at hqe
  have HRAN := Lib.hid (ran_ok wA a l cap hl (hat.below hbA) (fun k hk => (hok k hk).below hbA))
  have HRD := Lib.hid (fun (wx : World) (hb : Below wA.heap.size wA wx) r n (hle : vl.length ≤ 2048) => (⟨(hv.below hbA).below hb, hvn, (by show vl.length ≤ _; omega)⟩ : Rd wx ⟨slot, r, n, vl, va, vc⟩))
  have HRD2 := Lib.hid (fun (wx : World) (hb : Below wA.heap.size wA wx) r n => (⟨(hv.below hbA).below hb, hvn, (by show vl.length ≤ _; omega)⟩ : Rd2 wx ⟨slot, r, n, vl, va, vc⟩))
  obtain ⟨A0, hA0⟩ : ∃ A0, A0 = stOf startS l := ⟨_, rfl⟩
  rw [← hA0] at HRAN
  clear hat hok hA0 hwA hbA n0 n1 hsA hpb hv hvn
  go_enter Try.func6, Try.ntmps6
  go_wp2_with fail
  rw [← HW.out, ← HPB.out]
  refine HRAN.out.mono ?_; rintro e w1 ⟨rfl, hA1, hb1⟩
  have HB1 := Lib.hid hb1
  have HA1 := Lib.hid hA1
  clear hA1 hb1 HRAN
  go_wp2_with fail
  refine (awake_any w1).mono ?_; rintro e w2 ⟨rfl, hb2⟩
  have HB2 := Lib.hid (below_step HB1.out hb2)
  obtain ⟨b, hbdef⟩ : ∃ b, b = wA.heap.size + 1 := ⟨_, rfl⟩
  obtain ⟨mb, hmdef⟩ : ∃ mb, mb = wA.heap.size := ⟨_, rfl⟩
  have HA2 : Hid (AccIs w2 wA.heap.size b mb A0) := by rw [hbdef, hmdef]; exact HA1.out.below hb2
  rw [← hbdef]
  have hbb : wA.heap.size ≤ b := by omega
  have hmm : wA.heap.size ≤ mb := by omega
  clear hb2 HA1 HB1 hbdef hmdef
  obtain ⟨x0, x1, -, -, -⟩ := blk2 (hp_step HN0.out HB2.out)
  have HC := Lib.hid (prepare_ok w2 wA.heap.size b mb A0 r n d HA2.out)
  have hfin : ∀ W, Below wA.heap.size wA W → Below w.heap.size w W := fun W h => below_step HBA.out h
  have HFIN := Lib.hid hfin
  clear hfin
  by_cases hE : prepE A0 r n = 0
  · rw [hE] at HC
    obtain ⟨hreal, hless⟩ := prep0 hE
    have hA1 : prepS A0 r n = ⟨r, n, A0.first, A0.vs⟩ := by rw [prepS, if_pos hE]
    rw [hA1] at HC
    have HTL := Lib.hid (fun (wx : World) v (h : Tells w2 wx A0 r n d v) => (by rw [Tells, if_pos hE] at h; exact h : accc.Told w2 wx v (from4 A0.vs d)))
    obtain ⟨A1, hA1d⟩ : ∃ A1 : AS, A1 = ⟨r, n, A0.first, A0.vs⟩ := ⟨_, rfl⟩
    have hA1vs : A1.vs = A0.vs := by rw [hA1d]
    have hA1r : A1.r = r := by rw [hA1d]
    have hA1n : A1.n = n := by rw [hA1d]
    rw [← hA1d] at HC
    rw [← hA1vs] at HTL
    have HREAL := Lib.hid hreal
    have HA1R := Lib.hid hA1r
    have HA1N := Lib.hid hA1n
    have hqe2 : ∀ w, (binOp .neq 28 (.agg #[.int .i64 A1.r, .int .i64 A1.n]) (.agg #[.int .i64 r, .int .i64 n])).run Try.prog w = .ok (.bool false) w := by
      intro w
      rw [HA1R.out, HA1N.out]
      exact hqe w
    clear hE hA1 hA1d hA1vs hless hreal hA1r hA1n
    go_wp2_with fail
    refine HC.out.mono ?_; rintro e w3 ⟨v, rfl, ht, hA3, hk3⟩
    have hfit1 := is_fit hA3
    obtain ⟨zs, hzr, hzs, -⟩ := told_row (HTL.out w3 v ht) (fun x hx => hfit1 x (mem_from4.1 hx).1)
    obtain ⟨az, cz, rfl⟩ := hzr.shape
    have HA3 := Lib.hid hA3
    have HB3 := Lib.hid (HB2.out.trans (keep_below hk3 HB2.out.size hbb hmm))
    have HZR := Lib.hid hzr
    have HZS := Lib.hid hzs
    have HVO := Lib.hid (votes_row w3 _ _ _ _ hA3)
    have hlenA := is_len hA3
    have hone := is_one hA3
    clear ht hA3 hk3 hzr hzs hfit1 HTL HC x0 x1
    go_wp2_with fail
    refine HVO.out.mono ?_; rintro e w4 ⟨ay, cy, ys, rfl, hyr, hys, hb4⟩
    have hyl : ys.length ≤ 16 := by have h := congrArg List.length hys; rw [List.length_map] at h; omega
    have hzl : zs.length ≤ 16 := by
      have h := congrArg List.length HZS.out
      rw [List.length_map] at h
      have h2 : (from4 A1.vs d).length ≤ A1.vs.length := List.length_filter_le _ _
      omega
    have HA4 := Lib.hid (HA3.out.below hb4)
    have HB4 := Lib.hid (below_step HB3.out hb4)
    have HZR4 := Lib.hid (HZR.out.below hb4)
    have HYR := Lib.hid hyr
    have HYS := Lib.hid hys
    have HZY := Lib.hid (show zs.map lv = from4 (ys.map lv) d by rw [hys]; exact HZS.out)
    clear hb4 hyr hys HVO
    go_wp2_with fail
    go_loopw [17, 18] (fun q i wz => ∃ m : Nat, m ≤ ys.length ∧ i = .int .i64 m ∧ q = .int .i64 (cntF (ys.map lv) d m) ∧ Hid (Below w4.heap.size w4 wz)) (fun _ i _ => ys.length - (intOf i).toNat)
    case atStart => exact ⟨0, Nat.zero_le _, rfl, rfl, (Below.refl _ _ : Below w4.heap.size w4 w4)⟩
    case round =>
      obtain ⟨wo, rfl⟩ : ∃ wo : World, wo = wr := ⟨_, rfl⟩
      obtain ⟨m, hm, rfl, rfl, HBN⟩ := hrel
      by_cases hml : m < ys.length
      · have hst := cnt_step (ys.map lv) d m (by rw [List.length_map]; exact hml)
        have hat := cnt_at (ys.map lv) d m (by rw [List.length_map]; exact hml)
        simp only [List.getElem_map] at hst hat
        rw [← HZY.out, List.getElem?_map] at hat
        have HYRD := Lib.hid (fun (wx : World) (hb : Below w4.heap.size w4 wx) => (HYR.out.below hb).rd _ (List.getElem_mem hml))
        obtain ⟨gy, c8, e8, hgy, -, y0, y1, y2, y3⟩ := (HYR.out.below HBN.out).cells hml
        simp only [Value.slice.injEq, true_and] at e8
        obtain ⟨rfl, rfl⟩ := e8
        obtain ⟨kk, hkk⟩ : ∃ kk, kk = cntF (ys.map lv) d m := ⟨_, rfl⟩
        rw [← hkk] at hst hat ⊢
        have hkl : kk ≤ ys.length := by
          rw [hkk, cntF]
          have h : (from4 ((ys.map lv).take m) d).length ≤ ((ys.map lv).take m).length := List.length_filter_le _ _
          rw [List.length_take, List.length_map] at h
          omega
        obtain ⟨y, hy⟩ : ∃ y, y = ys[m] := ⟨_, rfl⟩
        rw [← hy] at y0 y1 y2 y3 hst hat HYRD
        have HST := Lib.hid hst
        have HAT := Lib.hid hat
        clear hst hat hy hkk
        by_cases hd : d ≤ y.s
        · have d1 : decide (y.s < d) = false := decide_eq_false (by omega)
          have hst := HST.out
          rw [if_pos (show d ≤ (lv y).s from hd)] at hst
          have HS2 := Lib.hid hst
          have hat := HAT.out hd
          have hkz : kk < zs.length := by
            by_cases h : kk < zs.length
            · exact h
            · rw [List.getElem?_eq_none (by omega)] at hat; simp at hat
          rw [List.getElem?_eq_getElem hkz] at hat
          have hxy : lv zs[kk] = lv y := by simpa using hat
          have HXY := Lib.hid hxy
          have HXRD := Lib.hid (fun (wx : World) (hb : Below w4.heap.size w4 wx) => (HZR4.out.below hb).rd _ (List.getElem_mem hkz))
          obtain ⟨gz, c7, e7, hgz, -, z0, z1, z2, z3⟩ := (HZR4.out.below HBN.out).cells hkz
          simp only [Value.slice.injEq, true_and] at e7
          obtain ⟨rfl, rfl⟩ := e7
          obtain ⟨x, hx⟩ : ∃ x, x = zs[kk] := ⟨_, rfl⟩
          rw [← hx] at z0 z1 z2 z3 HXY HXRD
          have HSV : Hid (∀ wx, Below w4.heap.size w4 wx → Calls Try.prog 17 #[.agg #[.int .i64 x.s, .int .i64 x.r, .int .i64 x.n, .slice x.a x.l.length x.c], .agg #[.int .i64 y.s, .int .i64 y.r, .int .i64 y.n, .slice y.a y.l.length y.c]] wx fun e w' => e = .returned (.bool true) ∧ Below wx.heap.size wx w') := by
            intro wx hb
            have h := samev_any wx x y (HXRD.out wx hb) (HYRD.out wx hb)
            rwa [(sameV_iff _ _).2 HXY.out] at h
          have t1 : decide (zs.length ≤ kk) = false := decide_eq_false (by omega)
          have t2 : ¬ zs.length ≤ kk := by omega
          clear hst hat hxy hx hd HST HAT
          go_wp2_with fail
          have hStab : ∀ Wx Wy : World, Below Wx.heap.size Wx Wy → (Wx.cell? ⟨gz, kk * 4, none⟩ = some (.int .i64 x.s) ∧ Wx.cell? ⟨gz, kk * 4 + 1, none⟩ = some (.int .i64 x.r) ∧ Wx.cell? ⟨gz, kk * 4 + 2, none⟩ = some (.int .i64 x.n) ∧ Wx.cell? ⟨gz, kk * 4 + 3, none⟩ = some (.slice x.a x.l.length x.c) ∧ Wx.cell? ⟨gy, m * 4, none⟩ = some (.int .i64 y.s) ∧ Wx.cell? ⟨gy, m * 4 + 1, none⟩ = some (.int .i64 y.r) ∧ Wx.cell? ⟨gy, m * 4 + 2, none⟩ = some (.int .i64 y.n) ∧ Wx.cell? ⟨gy, m * 4 + 3, none⟩ = some (.slice y.a y.l.length y.c) ∧ Below w4.heap.size w4 Wx) → (Wy.cell? ⟨gz, kk * 4, none⟩ = some (.int .i64 x.s) ∧ Wy.cell? ⟨gz, kk * 4 + 1, none⟩ = some (.int .i64 x.r) ∧ Wy.cell? ⟨gz, kk * 4 + 2, none⟩ = some (.int .i64 x.n) ∧ Wy.cell? ⟨gz, kk * 4 + 3, none⟩ = some (.slice x.a x.l.length x.c) ∧ Wy.cell? ⟨gy, m * 4, none⟩ = some (.int .i64 y.s) ∧ Wy.cell? ⟨gy, m * 4 + 1, none⟩ = some (.int .i64 y.r) ∧ Wy.cell? ⟨gy, m * 4 + 2, none⟩ = some (.int .i64 y.n) ∧ Wy.cell? ⟨gy, m * 4 + 3, none⟩ = some (.slice y.a y.l.length y.c) ∧ Below w4.heap.size w4 Wy) := by
            intro Wx Wy kk hs
            obtain ⟨s0, s1, s2, s3, s4, s5, s6, s7, s8⟩ := hs
            exact ⟨cell_step s0 kk, cell_step s1 kk, cell_step s2 kk, cell_step s3 kk, cell_step s4 kk, cell_step s5 kk, cell_step s6 kk, cell_step s7 kk, below_step s8 kk⟩
          have HhStab := Lib.hid hStab
          clear hStab
          have lV : Hid (∀ Wx : World, (Wx.cell? ⟨gz, kk * 4, none⟩ = some (.int .i64 x.s) ∧ Wx.cell? ⟨gz, kk * 4 + 1, none⟩ = some (.int .i64 x.r) ∧ Wx.cell? ⟨gz, kk * 4 + 2, none⟩ = some (.int .i64 x.n) ∧ Wx.cell? ⟨gz, kk * 4 + 3, none⟩ = some (.slice x.a x.l.length x.c) ∧ Wx.cell? ⟨gy, m * 4, none⟩ = some (.int .i64 y.s) ∧ Wx.cell? ⟨gy, m * 4 + 1, none⟩ = some (.int .i64 y.r) ∧ Wx.cell? ⟨gy, m * 4 + 2, none⟩ = some (.int .i64 y.n) ∧ Wx.cell? ⟨gy, m * 4 + 3, none⟩ = some (.slice y.a y.l.length y.c) ∧ Below w4.heap.size w4 Wx) → Calls Try.prog 17 #[.agg #[.int .i64 x.s, .int .i64 x.r, .int .i64 x.n, .slice x.a x.l.length x.c], .agg #[.int .i64 y.s, .int .i64 y.r, .int .i64 y.n, .slice y.a y.l.length y.c]] Wx fun e w' => e = .returned (.bool true) ∧ Below Wx.heap.size Wx w') := by
            intro Wx hs
            obtain ⟨s0, s1, s2, s3, s4, s5, s6, s7, s8⟩ := hs
            have hK := s8
            exact HSV.out _ hK
          go_region_held3 (fun w' => w'.cell? ⟨gz, kk * 4, none⟩ = some (.int .i64 x.s) ∧ w'.cell? ⟨gz, kk * 4 + 1, none⟩ = some (.int .i64 x.r) ∧ w'.cell? ⟨gz, kk * 4 + 2, none⟩ = some (.int .i64 x.n) ∧ w'.cell? ⟨gz, kk * 4 + 3, none⟩ = some (.slice x.a x.l.length x.c) ∧ w'.cell? ⟨gy, m * 4, none⟩ = some (.int .i64 y.s) ∧ w'.cell? ⟨gy, m * 4 + 1, none⟩ = some (.int .i64 y.r) ∧ w'.cell? ⟨gy, m * 4 + 2, none⟩ = some (.int .i64 y.n) ∧ w'.cell? ⟨gy, m * 4 + 3, none⟩ = some (.slice y.a y.l.length y.c) ∧ Below w4.heap.size w4 w') (first | (exact ⟨z0, z1, z2, z3, y0, y1, y2, y3, below_drewN HBN.out 1⟩) | (refine HhStab.out _ _ hbn ?_; assumption)) (first | (go_at_call 17; refine ((lV.out _ (by assumption))).mono ?_; rintro e wn ⟨rfl, hbn⟩))
          have hS13 : wn.cell? ⟨gz, kk * 4, none⟩ = some (.int .i64 x.s) ∧ wn.cell? ⟨gz, kk * 4 + 1, none⟩ = some (.int .i64 x.r) ∧ wn.cell? ⟨gz, kk * 4 + 2, none⟩ = some (.int .i64 x.n) ∧ wn.cell? ⟨gz, kk * 4 + 3, none⟩ = some (.slice x.a x.l.length x.c) ∧ wn.cell? ⟨gy, m * 4, none⟩ = some (.int .i64 y.s) ∧ wn.cell? ⟨gy, m * 4 + 1, none⟩ = some (.int .i64 y.r) ∧ wn.cell? ⟨gy, m * 4 + 2, none⟩ = some (.int .i64 y.n) ∧ wn.cell? ⟨gy, m * 4 + 3, none⟩ = some (.slice y.a y.l.length y.c) ∧ Below w4.heap.size w4 wn := by assumption
          have HB13 := Lib.hid hS13.2.2.2.2.2.2.2.2
          clear hS13
          go_wp2_with fail
          go_roundw
          case rel => exact ⟨m + 1, by omega, by go_num, by rw [HS2.out]; go_num, HB13⟩
          case measure => simp [intOf]; omega
        · have d1 : decide (y.s < d) = true := decide_eq_true (by omega)
          have hst := HST.out
          rw [if_neg (show ¬ d ≤ (lv y).s from hd)] at hst
          have HS2 := Lib.hid hst
          clear hst hd HST HAT
          go_wp2_with fail
          go_roundw
          case rel => exact ⟨m + 1, by omega, by go_num, by rw [HS2.out], HBN⟩
          case measure => simp [intOf]; omega
      · obtain rfl : m = ys.length := by omega
        have hall := cnt_all (ys.map lv) d
        rw [← HZY.out, List.length_map, List.length_map] at hall
        rw [hall]
        have HBZ := HBN
        have HBW := Lib.hid (below_step HB4.out HBZ.out)
        obtain ⟨x0, x1, -, -, -⟩ := blk2 (hp_step HN0.out HBW.out)
        clear hall HBN
        go_wp2_with fail
        have hStab : ∀ Wx Wy : World, Below Wx.heap.size Wx Wy → (Wx.cell? ⟨pb, 0, none⟩ = some (.int .i64 r) ∧ Wx.cell? ⟨pb, 1, none⟩ = some (.int .i64 n) ∧ Below w4.heap.size w4 Wx) → (Wy.cell? ⟨pb, 0, none⟩ = some (.int .i64 r) ∧ Wy.cell? ⟨pb, 1, none⟩ = some (.int .i64 n) ∧ Below w4.heap.size w4 Wy) := by
          intro Wx Wy kk hs
          obtain ⟨s0, s1, s2⟩ := hs
          exact ⟨cell_step s0 kk, cell_step s1 kk, below_step s2 kk⟩
        have HhStab := Lib.hid hStab
        clear hStab
        have lP : Hid (∀ Wx : World, (Wx.cell? ⟨pb, 0, none⟩ = some (.int .i64 r) ∧ Wx.cell? ⟨pb, 1, none⟩ = some (.int .i64 n) ∧ Below w4.heap.size w4 Wx) → Calls Try.prog 21 #[.pointer (some ⟨b, 0, none⟩)] Wx fun e w' => e = .returned (.agg #[.int .i64 A1.r, .int .i64 A1.n]) ∧ Below Wx.heap.size Wx w') := by
          intro Wx hs
          obtain ⟨s0, s1, s2⟩ := hs
          have hK := s2
          exact promised_ok _ _ _ _ _ (HA4.out.below hK)
        go_region_held3 (fun w' => w'.cell? ⟨pb, 0, none⟩ = some (.int .i64 r) ∧ w'.cell? ⟨pb, 1, none⟩ = some (.int .i64 n) ∧ Below w4.heap.size w4 w') (first | (exact ⟨x0, x1, below_drewN HBZ.out 1⟩) | (refine HhStab.out _ _ hbn ?_; assumption)) (first | (go_at_call 21; refine ((lP.out _ (by assumption))).mono ?_; rintro e wn ⟨rfl, hbn⟩))
        have hS16 : wn.cell? ⟨pb, 0, none⟩ = some (.int .i64 r) ∧ wn.cell? ⟨pb, 1, none⟩ = some (.int .i64 n) ∧ Below w4.heap.size w4 wn := by assumption
        obtain ⟨x0, x1, hb16⟩ := hS16
        have HB16 := Lib.hid hb16
        have HBA16 := Lib.hid (below_step HB4.out hb16)
        obtain ⟨u0, u1, -, -, -⟩ := blk2 (hp_step HN1.out HBA16.out)
        clear hb16
        go_wp2_with fail
        refine (lessL lr ln r n wn).mono ?_; rintro e w5 ⟨rfl, hb5⟩
        have HB45 := Lib.hid (below_step HB16.out hb5)
        have HB5 := Lib.hid (below_step HBA16.out hb5)
        have HA5 := Lib.hid (HA4.out.below HB45.out)
        obtain ⟨x0, x1, -, -, -⟩ := blk2 (hp_step HN0.out HB5.out)
        obtain ⟨u0, u1, -, -, -⟩ := blk2 (hp_step HN1.out HB5.out)
        clear hb5
        go_upto_if 114 with fail
        go_cut [] from 114 to 145 (fun wx => Hid (AccIs wx wA.heap.size b mb A1) ∧ Hid (Below wA.heap.size wA wx))
        case first =>
          by_cases hlo : lessB lr ln r n = true
          · have hlo1 : lessB lr ln A1.r A1.n = true := by rw [HA1R.out, HA1N.out]; exact hlo
            have hpS : prepS A1 lr ln = A1 := by rw [prepS, if_neg (below_prep hlo1)]
            have hf0 : (prepE A1 lr ln == 0) = false := by have h := below_prep hlo1; simp; exact h
            have hv0 : accE A1.r A1.n A1.first (lv ⟨slot, lr, ln, vl, va, vc⟩) ≠ 0 := below_acc (v := ⟨slot, lr, ln, vl⟩) hlo1
            have hf1 : (accE A1.r A1.n A1.first (lv ⟨slot, lr, ln, vl, va, vc⟩) == 0) = false := by simp; exact hv0
            have hvS : accS A1 (lv ⟨slot, lr, ln, vl, va, vc⟩) = A1 := by rw [accS, if_neg hv0]
            have HCP := Lib.hid (prepare_ok w5 _ b mb A1 lr ln 1 HA5.out)
            rw [hpS] at HCP
            have HVS := Lib.hid hvS
            obtain ⟨E1, hE1⟩ : ∃ E, E = prepE A1 lr ln := ⟨_, rfl⟩
            obtain ⟨E2, hE2⟩ : ∃ E, E = accE A1.r A1.n A1.first (lv ⟨slot, lr, ln, vl, va, vc⟩) := ⟨_, rfl⟩
            rw [← hE1] at HCP hf0
            rw [← hE2] at hf1
            have HE2 := Lib.hid hE2
            have hf0' : ¬ E1 = 0 := by simpa using hf0
            have hf1' : ¬ E2 = 0 := by simpa using hf1
            clear hpS hvS hv0 hlo1 hE1 hE2
            rw [hlo]
            go_wp2_with fail
            refine HCP.out.mono ?_; rintro e w6 ⟨v6, rfl, _, hA6, hk6⟩
            have HA6 := Lib.hid hA6
            have HB6 := Lib.hid (HB5.out.trans (keep_below hk6 HB5.out.size hbb hmm))
            have HYR6 := Lib.hid (RowV.keep (HYR.out.below HB45.out) HA5.out hk6)
            have HAC := Lib.hid (accept_ok w6 wA.heap.size b mb A1 ⟨slot, lr, ln, vl, va, vc⟩ hA6 HB6.out.size (HRD2.out w6 HB6.out lr ln) hs1 hs2)
            rw [HVS.out, ← HE2.out] at HAC
            obtain ⟨x0, x1, -, -, -⟩ := blk2 (hp_step HN0.out HB6.out)
            obtain ⟨u0, u1, -, -, -⟩ := blk2 (hp_step HN1.out HB6.out)
            simp only [Vt.val] at HAC
            clear hA6 hk6 HCP
            go_wp2_with fail
            refine HAC.out.mono ?_; rintro e w7 ⟨rfl, hA7, hk7⟩
            have HA7 := Lib.hid hA7
            have HB7 := Lib.hid (HB6.out.trans (keep_below hk7 HB6.out.size hbb hmm))
            have HRY7 := Lib.hid (RowV.keep HYR6.out HA6.out hk7)
            obtain ⟨x0, x1, -, -, -⟩ := blk2 (hp_step HN0.out HB7.out)
            clear hA7 hk7 HAC u0 u1
            go_wp2_with fail
            have hStab : ∀ Wx Wy : World, Below Wx.heap.size Wx Wy → (Wx.cell? ⟨pb, 0, none⟩ = some (.int .i64 r) ∧ Wx.cell? ⟨pb, 1, none⟩ = some (.int .i64 n) ∧ Below w7.heap.size w7 Wx) → (Wy.cell? ⟨pb, 0, none⟩ = some (.int .i64 r) ∧ Wy.cell? ⟨pb, 1, none⟩ = some (.int .i64 n) ∧ Below w7.heap.size w7 Wy) := by
              intro Wx Wy kk hs
              obtain ⟨s0, s1, s2⟩ := hs
              exact ⟨cell_step s0 kk, cell_step s1 kk, below_step s2 kk⟩
            have HhStab := Lib.hid hStab
            clear hStab
            have lP : Hid (∀ Wx : World, (Wx.cell? ⟨pb, 0, none⟩ = some (.int .i64 r) ∧ Wx.cell? ⟨pb, 1, none⟩ = some (.int .i64 n) ∧ Below w7.heap.size w7 Wx) → Calls Try.prog 21 #[.pointer (some ⟨b, 0, none⟩)] Wx fun e w' => e = .returned (.agg #[.int .i64 A1.r, .int .i64 A1.n]) ∧ Below Wx.heap.size Wx w') := by
              intro Wx hs
              obtain ⟨s0, s1, s2⟩ := hs
              have hK := s2
              exact promised_ok _ _ _ _ _ (HA7.out.below hK)
            have lO : Hid (∀ Wx : World, (Wx.cell? ⟨pb, 0, none⟩ = some (.int .i64 r) ∧ Wx.cell? ⟨pb, 1, none⟩ = some (.int .i64 n) ∧ Below w7.heap.size w7 Wx) → Calls Try.prog 16 #[.pointer (some ⟨b, 0, none⟩)] Wx fun e w' => ∃ a c xs, e = .returned (.slice a xs.length c) ∧ RowV w' (.slice a xs.length c) xs ∧ xs.map lv = A1.vs ∧ Below Wx.heap.size Wx w') := by
              intro Wx hs
              obtain ⟨s0, s1, s2⟩ := hs
              have hK := s2
              exact votes_row _ _ _ _ _ (HA7.out.below hK)
            have lR : Hid (∀ Wx : World, (Wx.cell? ⟨pb, 0, none⟩ = some (.int .i64 r) ∧ Wx.cell? ⟨pb, 1, none⟩ = some (.int .i64 n) ∧ Below w7.heap.size w7 Wx) → RowV Wx (.slice ay ys.length cy) ys) := by
              intro Wx hs
              obtain ⟨s0, s1, s2⟩ := hs
              have hK := s2
              exact HRY7.out.below hK
            go_region_held3 (fun w' => w'.cell? ⟨pb, 0, none⟩ = some (.int .i64 r) ∧ w'.cell? ⟨pb, 1, none⟩ = some (.int .i64 n) ∧ Below w7.heap.size w7 w') (first | (exact ⟨x0, x1, below_drewN (Below.refl _ _) 1⟩) | (refine HhStab.out _ _ hbn ?_; assumption)) (first | (go_at_call 21; refine (lP.out _ (by assumption)).mono ?_; rintro e wn ⟨rfl, hbn⟩) | (go_at_call 16; refine (lO.out _ (by assumption)).mono ?_; rintro e wn ⟨av, cv, vs9, rfl, hrv9, hvs9, hbn⟩; have HRV9 := Lib.hid hrv9; have HVS9 := Lib.hid hvs9; clear hrv9 hvs9) | (go_at_call 22; refine (votes_eq _ _ _ _ _ HRV9.out (lR.out _ (by assumption)) (HVS9.out.trans HYS.out.symm)).mono ?_; rintro e wn ⟨rfl, hbn⟩))
            have hS21 : wn.cell? ⟨pb, 0, none⟩ = some (.int .i64 r) ∧ wn.cell? ⟨pb, 1, none⟩ = some (.int .i64 n) ∧ Below w7.heap.size w7 wn := by assumption
            have HA9 := Lib.hid (HA7.out.below hS21.2.2)
            have HB9 := Lib.hid (below_step HB7.out hS21.2.2)
            clear hS21
            go_wp2_with fail
            go_meet
            case rel => exact ⟨HA9, HB9⟩
          · have hlo' : lessB lr ln r n = false := by simpa using hlo
            clear hlo
            rw [hlo']
            go_wp2_with fail
            go_meet
            case rel => exact ⟨HA5, HB5⟩
        case rest =>
          obtain ⟨HAc, HBc⟩ := hcut
          obtain ⟨x0, x1, -, -, -⟩ := blk2 (hp_step HN0.out HBc.out)
          have hEq : accE A1.r A1.n A1.first (lv ⟨slot, r, n, vl, va, vc⟩) = if 2048 < vl.length then 1 else if slot < A1.first then 80 else if A1.first + 16 ≤ slot then 81 else 0 := by
            rw [accE]
            have h1 := HREAL.out
            by_cases h2 : 2048 < vl.length
            · rw [if_pos h2, if_pos (.inr h2)]
            · rw [if_neg h2, if_neg (by simp only [lv, h1]; simp; omega), HA1R.out, HA1N.out, if_neg (by simp only [lv]; rw [less_self]; simp)]
              rfl
          have HAC := Lib.hid (accept_ok wc wA.heap.size b mb A1 ⟨slot, r, n, vl, va, vc⟩ HAc.out HBc.out.size (HRD2.out wc HBc.out r n) hs1 hs2)
          have hone1 := is_one HAc.out
          have HFI := Lib.hid (fun (wx : World) (hA : AccIs wx wA.heap.size b mb A1) => first_ok wx wA.heap.size b mb A1 hA)
          have HAS := Lib.hid (show accE A1.r A1.n A1.first (lv ⟨slot, r, n, vl, va, vc⟩) ≠ 0 → accS A1 (lv ⟨slot, r, n, vl, va, vc⟩) = A1 from fun h => by rw [accS, if_neg h])
          have HAS0 := Lib.hid (show accE A1.r A1.n A1.first (lv ⟨slot, r, n, vl, va, vc⟩) = 0 → accS A1 (lv ⟨slot, r, n, vl, va, vc⟩) = ⟨r, n, A1.first, put4 A1.vs ⟨slot, r, n, vl⟩⟩ from fun h => by rw [accS, if_pos h]; rfl)
          have HEQ := Lib.hid hEq
          clear hEq
          by_cases c1 : 2048 < vl.length
          · have hE := HEQ.out
            rw [if_pos c1] at hE
            rw [HAS.out (by rw [hE]; decide), hE] at HAC
            simp only [Vt.val] at HAC
            have t1 : decide ((2048 : Int) < (vl.length : Int)) = true := decide_eq_true (by omega)
            clear hE HEQ HAS HAS0
            go_wp2_with fail
            refine HAC.out.mono ?_; rintro e w7 ⟨rfl, hA7, hk7⟩
            have HB7 := Lib.hid (HBc.out.trans (keep_below hk7 HBc.out.size hbb hmm))
            clear hA7 hk7 HAC
            go_wp2_with fail
            go_ret
            exact ⟨by first | rfl | simp, HFIN.out _ HB7.out⟩
          · by_cases c2 : slot < A1.first
            · have hE := HEQ.out
              rw [if_neg c1, if_pos c2] at hE
              rw [HAS.out (by rw [hE]; decide), hE] at HAC
              simp only [Vt.val] at HAC
              have t1 : decide (slot < A1.first) = true := decide_eq_true c2
              clear hE HEQ HAS HAS0 c1
              go_wp2_with fail
              refine HAC.out.mono ?_; rintro e w7 ⟨rfl, hA7, hk7⟩
              have HB7 := Lib.hid (HBc.out.trans (keep_below hk7 HBc.out.size hbb hmm))
              have HF7 := Lib.hid (HFI.out w7 hA7)
              clear hA7 hk7 HAC
              go_wp2_with fail
              refine HF7.out.mono ?_; rintro e w8 ⟨rfl, rfl⟩
              go_wp2_with fail
              go_ret
              exact ⟨by first | rfl | simp, HFIN.out _ HB7.out⟩
            · by_cases c3 : A1.first + 16 ≤ slot
              · have hE := HEQ.out
                rw [if_neg c1, if_neg c2, if_pos c3] at hE
                rw [HAS.out (by rw [hE]; decide), hE] at HAC
                simp only [Vt.val] at HAC
                have t1 : decide (A1.first < slot) = true := decide_eq_true (by omega)
                have hsub : IntKind.i64.wrap (slot - A1.first) = slot - A1.first := IntWalk.i64_in _ (by omega)
                have t2 : decide ((16 : Int) ≤ slot - A1.first) = true := decide_eq_true (by omega)
                clear hE HEQ HAS HAS0 c1 c2
                go_wp2_with fail
                refine HAC.out.mono ?_; rintro e w7 ⟨rfl, hA7, hk7⟩
                have HB7 := Lib.hid (HBc.out.trans (keep_below hk7 HBc.out.size hbb hmm))
                have HF7 := Lib.hid (HFI.out w7 hA7)
                clear hA7 hk7 HAC
                go_wp2_with fail
                refine HF7.out.mono ?_; rintro e w8 ⟨rfl, rfl⟩
                go_wp2_with fail
                refine HF7.out.mono ?_; rintro e w8 ⟨rfl, rfl⟩
                go_wp2_with fail
                go_ret
                exact ⟨by first | rfl | simp, HFIN.out _ HB7.out⟩
              · have hE := HEQ.out
                rw [if_neg c1, if_neg c2, if_neg c3] at hE
                rw [HAS0.out hE, hE] at HAC
                simp only [Vt.val] at HAC
                obtain ⟨A2, hA2d⟩ : ∃ A2 : AS, A2 = ⟨r, n, A1.first, put4 A1.vs ⟨slot, r, n, vl⟩⟩ := ⟨_, rfl⟩
                rw [← hA2d] at HAC
                have hp0 : prepE A2 r n = 0 := by
                  rw [hA2d, prepE, if_neg (by rw [HREAL.out]; simp), if_neg (by rw [less_self]; simp)]
                obtain ⟨rest, hrest⟩ := from_put A1.vs ⟨slot, r, n, vl⟩
                have hvs2 : from4 A2.vs slot = ⟨slot, r, n, vl⟩ :: rest := by rw [hA2d]; exact hrest
                have HP0 := Lib.hid hp0
                have HC1 := Lib.hid (show vl.length ≤ 2048 by omega)
                have HVS2 := Lib.hid hvs2
                clear hE HEQ HAS HAS0 c1 c2 c3 hA2d hp0 hrest hvs2
                go_wp2_with fail
                refine HAC.out.mono ?_; rintro e w7 ⟨rfl, hA7, hk7⟩
                have HB7 := Lib.hid (HBc.out.trans (keep_below hk7 HBc.out.size hbb hmm))
                have HA7 := Lib.hid hA7
                have HC7 := Lib.hid (prepare_ok w7 wA.heap.size b mb A2 r n slot hA7)
                rw [HP0.out] at HC7
                obtain ⟨x0, x1, -, -, -⟩ := blk2 (hp_step HN0.out HB7.out)
                clear hA7 hk7 HAC
                go_wp2_with fail
                refine HC7.out.mono ?_; rintro e w8 ⟨v8, rfl, ht8, hA8, hk8⟩
                rw [Tells, if_pos HP0.out, HVS2.out] at ht8
                have HB8 := Lib.hid (HB7.out.trans (keep_below hk8 HB7.out.size hbb hmm))
                have hfit8 := is_fit HA7.out
                obtain ⟨qs, hqr, hqs, -⟩ := told_row ht8 (fun x hx => hfit8 x (mem_from4.1 (by rw [HVS2.out]; exact hx)).1)
                obtain ⟨am, cm, rfl⟩ := hqr.shape
                have hql : 0 < qs.length := by have h := congrArg List.length hqs; rw [List.length_map, List.length_cons] at h; omega
                obtain ⟨gm, c7, e7, hgm, hcapm, z0, z1, z2, z3⟩ := hqr.cells hql
                simp only [Value.slice.injEq, true_and] at e7
                obtain ⟨rfl, rfl⟩ := e7
                simp only [Nat.zero_mul, Nat.zero_add] at z0 z1 z2 z3
                have hxv : lv qs[0] = ⟨slot, r, n, vl⟩ := by
                  have h : (qs.map lv)[0]? = some ⟨slot, r, n, vl⟩ := by rw [hqs]; rfl
                  rw [List.getElem?_map, List.getElem?_eq_getElem hql] at h
                  simpa using h
                have HXRD := Lib.hid (fun (wx : World) (hb : Below w8.heap.size w8 wx) => (hqr.below hb).rd _ (List.getElem_mem hql))
                obtain ⟨x, hx⟩ : ∃ x, x = qs[0] := ⟨_, rfl⟩
                rw [← hx] at z0 z1 z2 z3 hxv HXRD
                have HXV := Lib.hid hxv
                have HSV : Hid (∀ wx, Below w8.heap.size w8 wx → Calls Try.prog 17 #[.agg #[.int .i64 x.s, .int .i64 x.r, .int .i64 x.n, .slice x.a x.l.length x.c], .agg #[.int .i64 slot, .int .i64 r, .int .i64 n, .slice va vl.length vc]] wx fun e w' => e = .returned (.bool true) ∧ Below wx.heap.size wx w') := by
                  intro wx hb
                  have h := samev_any wx x ⟨slot, r, n, vl, va, vc⟩ (HXRD.out wx hb) (HRD.out wx (below_step HB8.out hb) r n HC1.out)
                  rwa [show sameV (lv x) (lv ⟨slot, r, n, vl, va, vc⟩) = true from (sameV_iff _ _).2 HXV.out] at h
                obtain ⟨x0, x1, -, -, -⟩ := blk2 (hp_step HN0.out HB8.out)
                have HQL := Lib.hid hql
                have hql2 : decide (0 < qs.length) = true := decide_eq_true hql
                clear ht8 hA8 hk8 hfit8 hqs hqr hxv hx HC7 HP0 HVS2 hcapm
                go_wp2_with fail
                have hStab : ∀ Wx Wy : World, Below Wx.heap.size Wx Wy → (Wx.cell? ⟨gm, 0, none⟩ = some (.int .i64 x.s) ∧ Wx.cell? ⟨gm, 1, none⟩ = some (.int .i64 x.r) ∧ Wx.cell? ⟨gm, 2, none⟩ = some (.int .i64 x.n) ∧ Wx.cell? ⟨gm, 3, none⟩ = some (.slice x.a x.l.length x.c) ∧ Wx.cell? ⟨pb, 0, none⟩ = some (.int .i64 r) ∧ Wx.cell? ⟨pb, 1, none⟩ = some (.int .i64 n) ∧ Below w8.heap.size w8 Wx) → (Wy.cell? ⟨gm, 0, none⟩ = some (.int .i64 x.s) ∧ Wy.cell? ⟨gm, 1, none⟩ = some (.int .i64 x.r) ∧ Wy.cell? ⟨gm, 2, none⟩ = some (.int .i64 x.n) ∧ Wy.cell? ⟨gm, 3, none⟩ = some (.slice x.a x.l.length x.c) ∧ Wy.cell? ⟨pb, 0, none⟩ = some (.int .i64 r) ∧ Wy.cell? ⟨pb, 1, none⟩ = some (.int .i64 n) ∧ Below w8.heap.size w8 Wy) := by
                  intro Wx Wy kk hs
                  obtain ⟨s0, s1, s2, s3, s4, s5, s6⟩ := hs
                  exact ⟨cell_step s0 kk, cell_step s1 kk, cell_step s2 kk, cell_step s3 kk, cell_step s4 kk, cell_step s5 kk, below_step s6 kk⟩
                have HhStab := Lib.hid hStab
                clear hStab
                have lV : Hid (∀ Wx : World, (Wx.cell? ⟨gm, 0, none⟩ = some (.int .i64 x.s) ∧ Wx.cell? ⟨gm, 1, none⟩ = some (.int .i64 x.r) ∧ Wx.cell? ⟨gm, 2, none⟩ = some (.int .i64 x.n) ∧ Wx.cell? ⟨gm, 3, none⟩ = some (.slice x.a x.l.length x.c) ∧ Wx.cell? ⟨pb, 0, none⟩ = some (.int .i64 r) ∧ Wx.cell? ⟨pb, 1, none⟩ = some (.int .i64 n) ∧ Below w8.heap.size w8 Wx) → Calls Try.prog 17 #[.agg #[.int .i64 x.s, .int .i64 x.r, .int .i64 x.n, .slice x.a x.l.length x.c], .agg #[.int .i64 slot, .int .i64 r, .int .i64 n, .slice va vl.length vc]] Wx fun e w' => e = .returned (.bool true) ∧ Below Wx.heap.size Wx w') := by
                  intro Wx hs
                  obtain ⟨s0, s1, s2, s3, s4, s5, s6⟩ := hs
                  have hK := s6
                  exact HSV.out _ hK
                go_region_held3 (fun w' => w'.cell? ⟨gm, 0, none⟩ = some (.int .i64 x.s) ∧ w'.cell? ⟨gm, 1, none⟩ = some (.int .i64 x.r) ∧ w'.cell? ⟨gm, 2, none⟩ = some (.int .i64 x.n) ∧ w'.cell? ⟨gm, 3, none⟩ = some (.slice x.a x.l.length x.c) ∧ w'.cell? ⟨pb, 0, none⟩ = some (.int .i64 r) ∧ w'.cell? ⟨pb, 1, none⟩ = some (.int .i64 n) ∧ Below w8.heap.size w8 w') (first | (exact ⟨z0, z1, z2, z3, x0, x1, below_drewN (Below.refl _ _) 1⟩) | (refine HhStab.out _ _ hbn ?_; assumption)) (first | (go_at_call 17; refine ((lV.out _ (by assumption))).mono ?_; rintro e wn ⟨rfl, hbn⟩))
                have hS27 : wn.cell? ⟨gm, 0, none⟩ = some (.int .i64 x.s) ∧ wn.cell? ⟨gm, 1, none⟩ = some (.int .i64 x.r) ∧ wn.cell? ⟨gm, 2, none⟩ = some (.int .i64 x.n) ∧ wn.cell? ⟨gm, 3, none⟩ = some (.slice x.a x.l.length x.c) ∧ wn.cell? ⟨pb, 0, none⟩ = some (.int .i64 r) ∧ wn.cell? ⟨pb, 1, none⟩ = some (.int .i64 n) ∧ Below w8.heap.size w8 wn := by assumption
                have HB9 := Lib.hid (below_step HB8.out hS27.2.2.2.2.2.2)
                clear hS27
                go_wp2_with fail
                go_ret
                exact ⟨by first | rfl | simp, HFIN.out _ HB9.out⟩
  · have hT : ∀ wx v, Tells w2 wx A0 r n d v → v = .slice none 0 0 := fun wx v h => by rw [Tells, if_neg hE] at h; exact h
    have HT := Lib.hid hT
    have hpS : prepS A0 r n = A0 := by rw [prepS, if_neg hE]
    rw [hpS] at HC
    clear hT hpS
    by_cases hreal : realB r n = false
    · have hE1 : prepE A0 r n = 1 := by rw [prepE, if_pos hreal]
      rw [hE1] at HC
      by_cases hr1 : r < 1
      · have t1 : decide (r < 1) = true := decide_eq_true hr1
        clear hE hE1 hreal
        go_wp2_with fail
        refine HC.out.mono ?_; rintro e w3 ⟨v, rfl, ht, hA3, hk3⟩
        obtain rfl := HT.out w3 v ht
        have HB3 := Lib.hid (HB2.out.trans (keep_below hk3 HB2.out.size hbb hmm))
        obtain ⟨x0, x1, -, -, -⟩ := blk2 (hp_step HN0.out HB3.out)
        clear ht hA3 hk3 HC
        go_wp2_with fail
        go_quiet (fail)
        go_wp2_with fail
        go_ret
        exact ⟨by first | rfl | simp, HFIN.out _ (below_drewN HB3.out _)⟩
      · have t1 : decide (r < 1) = false := decide_eq_false hr1
        have hn1 : n < 1 := by
          simp [realB] at hreal
          omega
        have t2 : decide (n < 1) = true := decide_eq_true hn1
        clear hE hE1 hreal
        go_wp2_with fail
        refine HC.out.mono ?_; rintro e w3 ⟨v, rfl, ht, hA3, hk3⟩
        obtain rfl := HT.out w3 v ht
        have HB3 := Lib.hid (HB2.out.trans (keep_below hk3 HB2.out.size hbb hmm))
        obtain ⟨x0, x1, -, -, -⟩ := blk2 (hp_step HN0.out HB3.out)
        clear ht hA3 hk3 HC
        go_wp2_with fail
        go_quiet (fail)
        go_wp2_with fail
        go_ret
        exact ⟨by first | rfl | simp, HFIN.out _ (below_drewN HB3.out _)⟩
    · have hless : lessB r n A0.r A0.n = true := by
        cases hh : lessB r n A0.r A0.n with
        | true => rfl
        | false => exact absurd (by rw [prepE, if_neg hreal, if_neg (by rw [hh]; simp)]) hE
      have hE1 : prepE A0 r n = 90 := by rw [prepE, if_neg hreal, if_pos hless]
      rw [hE1] at HC
      have HL6 := Lib.hid hless
      clear hE hE1 hreal hless
      go_wp2_with fail
      refine HC.out.mono ?_; rintro e w3 ⟨v, rfl, ht, hA3, hk3⟩
      obtain rfl := HT.out w3 v ht
      have HB3 := Lib.hid (HB2.out.trans (keep_below hk3 HB2.out.size hbb hmm))
      have HP6 := Lib.hid (fun (wx : World) (hb : Below w3.heap.size w3 wx) => promised_ok wx _ _ _ _ (hA3.below hb))
      obtain ⟨x0, x1, -, -, -⟩ := blk2 (hp_step HN0.out HB3.out)
      clear ht hA3 hk3 HC
      go_wp2_with fail
      have hStab : ∀ Wx Wy : World, Below Wx.heap.size Wx Wy → (Wx.cell? ⟨pb, 0, none⟩ = some (.int .i64 r) ∧ Wx.cell? ⟨pb, 1, none⟩ = some (.int .i64 n) ∧ Below w3.heap.size w3 Wx) → (Wy.cell? ⟨pb, 0, none⟩ = some (.int .i64 r) ∧ Wy.cell? ⟨pb, 1, none⟩ = some (.int .i64 n) ∧ Below w3.heap.size w3 Wy) := by
        intro Wx Wy kk hs
        obtain ⟨s0, s1, s2⟩ := hs
        exact ⟨cell_step s0 kk, cell_step s1 kk, below_step s2 kk⟩
      have HhStab := Lib.hid hStab
      clear hStab
      refine wp_region_held_drew (S := (fun w' => w'.cell? ⟨pb, 0, none⟩ = some (.int .i64 r) ∧ w'.cell? ⟨pb, 1, none⟩ = some (.int .i64 n) ∧ Below w3.heap.size w3 w')) (by kernel_rfl) ⟨x0, x1, below_drewN (Below.refl _ _) 1⟩ (fun hHeld => ?_)
      refine kit6.take_y (i := 0) (v := ?_) rfl (by kernel_rfl) (by kernel_rfl) (by kernel_rfl) (fun _ _ _ h => h) (by rfl) (by assumption) ?_ ?_
      rotate_left
      · intro w hSw
        try dsimp only at hSw
        go_simp
        try with_reducible rfl
      try simp only [Act.put, List.setIfInBounds_toArray, List.set_cons_zero, List.set_cons_succ]
      refine kit6.take_y (i := 1) (v := ?_) rfl (by kernel_rfl) (by kernel_rfl) (by kernel_rfl) (fun _ _ _ h => h) (by rfl) (by assumption) ?_ ?_
      rotate_left
      · intro w hSw
        try dsimp only at hSw
        go_simp
        try with_reducible rfl
      try simp only [Act.put, List.setIfInBounds_toArray, List.set_cons_zero, List.set_cons_succ]
      refine kit6.take_y (i := 2) (v := ?_) rfl (by kernel_rfl) (by kernel_rfl) (by kernel_rfl) (fun _ _ _ h => h) (by rfl) (by assumption) ?_ ?_
      rotate_left
      · intro w hSw
        try dsimp only at hSw
        go_simp
        try with_reducible rfl
      try simp only [Act.put, List.setIfInBounds_toArray, List.set_cons_zero, List.set_cons_succ]
      refine kit6.take_y (i := 3) (v := ?_) rfl (by kernel_rfl) (by kernel_rfl) (by kernel_rfl) (fun _ _ _ h => h) (by rfl) (by assumption) ?_ ?_
      rotate_left
      · intro w hSw
        try dsimp only at hSw
        go_simp
        try with_reducible rfl
      try simp only [Act.put, List.setIfInBounds_toArray, List.set_cons_zero, List.set_cons_succ]
      refine kit6.take_y (i := 4) (v := ?_) rfl (by kernel_rfl) (by kernel_rfl) (by kernel_rfl) (fun _ _ _ h => h) (by rfl) (by assumption) ?_ ?_
      rotate_left
      · intro w hSw
        try dsimp only at hSw
        go_simp
        try with_reducible rfl
      try simp only [Act.put, List.setIfInBounds_toArray, List.set_cons_zero, List.set_cons_succ]
      refine kit6.take_y (i := 5) (v := ?_) rfl (by kernel_rfl) (by kernel_rfl) (by kernel_rfl) (fun _ _ _ h => h) (by rfl) (by assumption) ?_ ?_
      rotate_left
      · intro w hSw
        try dsimp only at hSw
        go_simp
        try with_reducible rfl
      try simp only [Act.put, List.setIfInBounds_toArray, List.set_cons_zero, List.set_cons_succ]
      refine kit6.take_y (i := 6) (v := ?_) rfl (by kernel_rfl) (by kernel_rfl) (by kernel_rfl) (fun _ _ _ h => h) (by rfl) (by assumption) ?_ ?_
      rotate_left
      · intro w hSw
        try dsimp only at hSw
        go_simp
        try with_reducible rfl
      try simp only [Act.put, List.setIfInBounds_toArray, List.set_cons_zero, List.set_cons_succ]
      refine kit6.take_n (i := 7) rfl (by kernel_rfl) (by kernel_rfl) (by kernel_rfl) (fun _ _ _ h => h) (by rfl) (by assumption) ?_
      try simp only [Act.put, List.setIfInBounds_toArray, List.set_cons_zero, List.set_cons_succ]
      refine kit6.take_n (i := 8) rfl (by kernel_rfl) (by kernel_rfl) (by kernel_rfl) (fun _ _ _ h => h) (by rfl) (by assumption) ?_
      try simp only [Act.put, List.setIfInBounds_toArray, List.set_cons_zero, List.set_cons_succ]
      refine kit6.take_n (i := 9) rfl (by kernel_rfl) (by kernel_rfl) (by kernel_rfl) (fun _ _ _ h => h) (by rfl) (by assumption) ?_
      try simp only [Act.put, List.setIfInBounds_toArray, List.set_cons_zero, List.set_cons_succ]
      refine kit6.take_n (i := 10) rfl (by kernel_rfl) (by kernel_rfl) (by kernel_rfl) (fun _ _ _ h => h) (by rfl) (by assumption) ?_
      try simp only [Act.put, List.setIfInBounds_toArray, List.set_cons_zero, List.set_cons_succ]
      refine kit6.take_n (i := 11) rfl (by kernel_rfl) (by kernel_rfl) (by kernel_rfl) (fun _ _ _ h => h) (by rfl) (by assumption) ?_
      try simp only [Act.put, List.setIfInBounds_toArray, List.set_cons_zero, List.set_cons_succ]
      refine kit6.take_n (i := 12) rfl (by kernel_rfl) (by kernel_rfl) (by kernel_rfl) (fun _ _ _ h => h) (by rfl) (by assumption) ?_
      try simp only [Act.put, List.setIfInBounds_toArray, List.set_cons_zero, List.set_cons_succ]
      refine kit6.take_n (i := 13) rfl (by kernel_rfl) (by kernel_rfl) (by kernel_rfl) (fun _ _ _ h => h) (by rfl) (by assumption) ?_
      try simp only [Act.put, List.setIfInBounds_toArray, List.set_cons_zero, List.set_cons_succ]
      refine kit6.take_n (i := 14) rfl (by kernel_rfl) (by kernel_rfl) (by kernel_rfl) (fun _ _ _ h => h) (by rfl) (by assumption) ?_
      try simp only [Act.put, List.setIfInBounds_toArray, List.set_cons_zero, List.set_cons_succ]
      refine kit6.take_y (i := 15) (v := ?_) rfl (by kernel_rfl) (by kernel_rfl) (by kernel_rfl) (fun _ _ _ h => h) (by rfl) (by assumption) ?_ ?_
      rotate_left
      · intro w hSw
        try dsimp only at hSw
        go_simp
        try with_reducible rfl
      try simp only [Act.put, List.setIfInBounds_toArray, List.set_cons_zero, List.set_cons_succ]
      refine kit6.take_y (i := 16) (v := ?_) rfl (by kernel_rfl) (by kernel_rfl) (by kernel_rfl) (fun _ _ _ h => h) (by rfl) (by assumption) ?_ ?_
      rotate_left
      · intro w hSw
        try dsimp only at hSw
        go_simp
        try with_reducible rfl
      try simp only [Act.put, List.setIfInBounds_toArray, List.set_cons_zero, List.set_cons_succ]
      refine kit6.take_y (i := 17) (v := ?_) rfl (by kernel_rfl) (by kernel_rfl) (by kernel_rfl) (fun _ _ _ h => h) (by rfl) (by assumption) ?_ ?_
      rotate_left
      · intro w hSw
        try dsimp only at hSw
        go_simp
        try with_reducible rfl
      try simp only [Act.put, List.setIfInBounds_toArray, List.set_cons_zero, List.set_cons_succ]
      refine kit6.take_y (i := 18) (v := ?_) rfl (by kernel_rfl) (by kernel_rfl) (by kernel_rfl) (fun _ _ _ h => h) (by rfl) (by assumption) ?_ ?_
      rotate_left
      · intro w hSw
        try dsimp only at hSw
        go_simp
        try with_reducible rfl
      try simp only [Act.put, List.setIfInBounds_toArray, List.set_cons_zero, List.set_cons_succ]
      refine kit6.take_y (i := 19) (v := ?_) rfl (by kernel_rfl) (by kernel_rfl) (by kernel_rfl) (fun _ _ _ h => h) (by rfl) (by assumption) ?_ ?_
      rotate_left
      · intro w hSw
        try dsimp only at hSw
        go_simp
        try with_reducible rfl
      try simp only [Act.put, List.setIfInBounds_toArray, List.set_cons_zero, List.set_cons_succ]
      refine kit6.take_y (i := 20) (v := ?_) rfl (by kernel_rfl) (by kernel_rfl) (by kernel_rfl) (fun _ _ _ h => h) (by rfl) (by assumption) ?_ ?_
      rotate_left
      · intro w hSw
        try dsimp only at hSw
        go_simp
        try with_reducible rfl
      try simp only [Act.put, List.setIfInBounds_toArray, List.set_cons_zero, List.set_cons_succ]
      refine kit6.take_y (i := 21) (v := ?_) rfl (by kernel_rfl) (by kernel_rfl) (by kernel_rfl) (fun _ _ _ h => h) (by rfl) (by assumption) ?_ ?_
      rotate_left
      · intro w hSw
        try dsimp only at hSw
        go_simp
        try with_reducible rfl
      try simp only [Act.put, List.setIfInBounds_toArray, List.set_cons_zero, List.set_cons_succ]
      refine kit6.take_c (i := 22) rfl (by kernel_rfl) (by rfl) (fun K hK => ?_)
      go_simp
      go_at_call 21; refine (HP6.out _ hHeld.2.2).mono ?_; rintro e wn ⟨rfl, hbn⟩
      dsimp only
      refine hK.out _ _ (by refine HhStab.out _ _ hbn ?_; assumption) (fun hHeld => ?_)
      clear hK K
      try simp only [Act.put, List.setIfInBounds_toArray, List.set_cons_zero, List.set_cons_succ]
      refine kit6.take_c (i := 23) rfl (by kernel_rfl) (by rfl) (fun K hK => ?_)
      go_simp
      go_at_call 24; refine (lessL _ _ _ _ _).mono ?_; rw [HL6.out]; rintro e wn ⟨rfl, hbn⟩
      dsimp only
      refine hK.out _ _ (by refine HhStab.out _ _ hbn ?_; assumption) (fun hHeld => ?_)
      clear hK K
      try simp only [Act.put, List.setIfInBounds_toArray, List.set_cons_zero, List.set_cons_succ]
      refine kit6.take_y (i := 24) (v := ?_) rfl (by kernel_rfl) (by kernel_rfl) (by kernel_rfl) (fun _ _ _ h => h) (by rfl) (by assumption) ?_ ?_
      rotate_left
      · intro w hSw
        try dsimp only at hSw
        go_simp
        try with_reducible rfl
      try simp only [Act.put, List.setIfInBounds_toArray, List.set_cons_zero, List.set_cons_succ]
      refine kit6.take_y (i := 25) (v := ?_) rfl (by kernel_rfl) (by kernel_rfl) (by kernel_rfl) (fun _ _ _ h => h) (by rfl) (by assumption) ?_ ?_
      rotate_left
      · intro w hSw
        try dsimp only at hSw
        go_simp
        try with_reducible rfl
      try simp only [Act.put, List.setIfInBounds_toArray, List.set_cons_zero, List.set_cons_succ]
      refine kit6.take_y (i := 26) (v := ?_) rfl (by kernel_rfl) (by kernel_rfl) (by kernel_rfl) (fun _ _ _ h => h) (by rfl) (by assumption) ?_ ?_
      rotate_left
      · intro w hSw
        try dsimp only at hSw
        go_simp
        try with_reducible rfl
      try simp only [Act.put, List.setIfInBounds_toArray, List.set_cons_zero, List.set_cons_succ]
      refine kit6.take_y (i := 27) (v := ?_) rfl (by kernel_rfl) (by kernel_rfl) (by kernel_rfl) (fun _ _ _ h => h) (by rfl) (by assumption) ?_ ?_
      rotate_left
      · intro w hSw
        try dsimp only at hSw
        go_simp
        try with_reducible rfl
      try simp only [Act.put, List.setIfInBounds_toArray, List.set_cons_zero, List.set_cons_succ]
      refine wpAnyH_done (by kernel_rfl) ?_ _
      have HB9 := Lib.hid (below_step HB3.out hHeld.2.2)
      go_wp2_with fail
      go_ret
      exact ⟨by first | rfl | simp, HFIN.out _ HB9.out⟩

theorem lawWalk {H : Type} (enc : TypeId × Value → H) : LawWalk enc Try.prog 6 Try.f6 (fun _ => True) := by
  intro W base args ds p hval hA hsz _
  rw [Try.params6] at hA hval hsz
  obtain ⟨v0, vs0, d0, ds0, p0, q0, hargs, rfl, rfl, h0, r0⟩ := trodAll_cons hA
  obtain ⟨v1, vs1, d1, ds1, p1, q1, rfl, rfl, rfl, h1, r1⟩ := trodAll_cons r0
  obtain ⟨v2, vs2, d2, ds2, p2, q2, rfl, rfl, rfl, h2, r2⟩ := trodAll_cons r1
  obtain ⟨v3, vs3, d3, ds3, p3, q3, rfl, rfl, rfl, h3, r3⟩ := trodAll_cons r2
  obtain ⟨v4, vs4, d4, ds4, p4, q4, rfl, rfl, rfl, h4, r4⟩ := trodAll_cons r3
  obtain ⟨v5, vs5, d5, ds5, p5, q5, rfl, rfl, rfl, h5, r5⟩ := trodAll_cons r4
  obtain ⟨rfl, rfl, rfl⟩ := trodAll_nil r5
  obtain rfl : args = #[v0, v1, v2, v3, v4, v5] := Array.toList_inj.1 hargs
  obtain ⟨a0, l0, cap0, es0, sp0, rfl, hlc0, hcm0, hn0, hat0, hd0, hel0, hsp0, hgood0⟩ := open_slice_gen 5 ocells (fun o d => GoodO W o ∧ DataO o d) Try.underlying22 (by kernel_rfl) (by omega) (fun n cs y _ h => elem_op n cs y h) (hval 0 22 v0 rfl rfl) h0
  obtain ⟨br1, bm1, rfl, wr1, wm1⟩ := open_pair Try.underlying28 (by kernel_rfl) (by kernel_rfl) Try.underlying3 Try.underlying3 (hval 1 28 v1 rfl rfl) h1
  obtain ⟨n2, rfl, rfl, rfl, w2⟩ := open_int Try.underlying3 (hval 2 3 v2 rfl rfl) h2
  obtain ⟨br3, bm3, rfl, wr3, wm3⟩ := open_pair Try.underlying28 (by kernel_rfl) (by kernel_rfl) Try.underlying3 Try.underlying3 (hval 3 28 v3 rfl rfl) h3
  obtain ⟨n4, rfl, rfl, rfl, w4⟩ := open_int Try.underlying3 (hval 4 3 v4 rfl rfl) h4
  obtain ⟨va5, vz5, vc5, rfl, hlc5, hcm5, hnil5, hlie5, hwf5, hd5⟩ := open_slice_int Try.underlying29 Try.underlying5 (by kernel_rfl) (hval 5 29 v5 rfl rfl) h5
  obtain ⟨vl5, rfl, hbt5⟩ := nat_list vz5 (byte_wf hwf5)
  rw [bcells_of] at hlie5
  rw [List.length_map] at *
  exact promise_ok W a0 l0 cap0 (by unfold maxLen at hcm0; omega) hat0 (fun k hk => (hgood0 k hk (by omega)).1) br1 bm1 n2 br3 bm3 n4 va5 vl5 vc5 (int_wf w4).1 (int_wf w4).2 hlie5 hnil5 (by unfold maxLen at hcm5; omega)

theorem own : ownKnob Try.prog.godebug = none := by kernel_rfl
theorem laidOut : laidOutB Try.prog = true := by kernel_rfl

set_option maxRecDepth 100000 in
theorem lifted (os : Os) (started : os.Started) (H : Type) (enc : TypeId × Value → H) :
    ReturnsInHanded {} Try.checked os 6 .any (Rows.acceptPromiseSpec.pre6 enc Try.prog Try.f6 Rows.acceptPromiseRow.domain false) (Rows.acceptPromiseSpec.post enc Try.prog Try.f6 false true false false) := by
  refine returnsInHanded_of_change_sized (C := Try.checked) own started (by kernel_rfl) Try.func6
    (ChangeSpec.witness6 (enc := enc) (C := Try.checked) false ⟨#[], #[.slice none 0 0, .agg #[.int .i64 0, .int .i64 0], .int .i64 0, .agg #[.int .i64 0, .int .i64 0], .int .i64 0, .slice none 0 0], []⟩ 8 (by kernel_rfl) (by kernel_rfl) (by kernel_rfl) (by kernel_rfl)) ?_
  intro W base args ds gs before hval hW hcnd hsz _
  exact law_post (C := Try.checked) laidOut (fun ds h => by match ds, h with | [_, _, _, _, _, _], _ => rfl) 4 rfl Try.underlying4 rfl (by kernel_rfl) hval hW hsz trivial (lawWalk enc)

theorem proved : Rows.AcceptPromiseSaid :=
  OpenClaim.holds_of_wide 6 Try.f6 rfl rfl rfl rfl rfl rfl rfl ⟨rfl, rfl, rfl, rfl, rfl⟩ rfl rfl rfl rfl rfl (by kernel_rfl) Try.func6 (by kernel_rfl)
    (of_decide_eq_true (by kernel_rfl)) (by unfold Func.isWrapper; first | (rw [if_pos (by decide +kernel)]; kernel_rfl) | (rw [if_neg (by decide +kernel)]; exact ⟨rfl, rfl⟩))
    (fun os started H enc _ => lifted os started H enc)
#print axioms proved
end Go.Proofs.Ytafjmedjaepimaa.acceptPromise
