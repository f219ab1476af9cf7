/-
  AcceptKeeps: what is promised never falls; no vote's ballot is above it; a vote is followed, for its slot, by one of the same ballot or a greater one alone, or forgotten by Forget.
-/
import Derived.Test.YtafjmedjaepimaaAccL
import Derived.Test.YtafjmedjaepimaaChecked
import Derived.Test.YtafjmedjaepimaaRows
import Derived.Test.YtafjmedjaepimaaKit6
import Derived.Deep.CutBlock
import Derived.Deep.RegionHeld3
namespace Go.Proofs.Ytafjmedjaepimaa.acceptKeeps
open Go.ChangeShapes Go.WideShapes Go.ChangeAt Go.RowKit Go.Joins
open Go.Proofs.Ytafjmedjaepimaa.kit Go.Proofs.Ytafjmedjaepimaa.mapkit Go.Proofs.Ytafjmedjaepimaa.byt Go.Proofs.Ytafjmedjaepimaa.own Go.Proofs.Ytafjmedjaepimaa.accd Go.Proofs.Ytafjmedjaepimaa.acca Go.Proofs.Ytafjmedjaepimaa.accb Go.Proofs.Ytafjmedjaepimaa.acck Go.Proofs.Ytafjmedjaepimaa.acce Go.Proofs.Ytafjmedjaepimaa.accf Go.Proofs.Ytafjmedjaepimaa.accg Go.Proofs.Ytafjmedjaepimaa.acch Go.Proofs.Ytafjmedjaepimaa.acci Go.Proofs.Ytafjmedjaepimaa.accj Go.Proofs.Ytafjmedjaepimaa.accr Go.Proofs.Ytafjmedjaepimaa.accl
set_option linter.unusedVariables false
set_option linter.unusedSimpArgs false
set_option maxHeartbeats 4000000
set_option maxRecDepth 100000

/-- Behind a call: what lies where. -/
structure Beh (w : World) (b mb pb : Nat) (A A' : AS) (v : Value) (xs : List Vt) (wx : World) : Prop where
  acc : AccIs wx w.heap.size b mb A'
  below : Below w.heap.size w wx
  row : RowV wx v xs
  box : wx.heap[pb]? = some (.cells #[.int .i64 A.r, .int .i64 A.n] 28 (0, 0))
theorem Beh.keep {w : World} {b mb pb : Nat} {A B C : AS} {v : Value} {xs : List Vt} {w1 w2 : World} (h : Beh w b mb pb A B v xs w1) (hbb : w.heap.size ≤ b) (hmb : w.heap.size ≤ mb) (h2 : AccIs w2 w.heap.size b mb C) (hk : Keep (fun k => k = b ∨ k = mb) w1 w2) : Beh w b mb pb A C v xs w2 := by
  refine ⟨h2, h.below.trans (keep_below hk h.below.size hbb hmb), RowV.keep h.row h.acc hk, (hk.block pb (kit.blk h.box).2.2 (fun hx => ?_)).trans h.box⟩
  obtain ⟨vs, h1, -⟩ := h.acc
  rcases hx with hx | hx
  · have e := h1.blk
    rw [← hx, h.box] at e
    simp at e
  · obtain ⟨es, cl, hm⟩ := h1.map.obj
    rw [← hx, h.box] at hm
    simp at hm
theorem Beh.old {w : World} {b mb pb : Nat} {A B : AS} {v : Value} {xs : List Vt} {w1 w2 : World} (h : Beh w b mb pb A B v xs w1) (hb : Below w1.heap.size w1 w2) : Beh w b mb pb A B v xs w2 :=
  ⟨h.acc.below hb, below_step h.below hb, h.row.below hb, hp_step h.box hb⟩

theorem first_b (w : World) (base b mb : Nat) (A : AS) (h : AccIs w base b mb A) : Calls Try.prog 18 #[.pointer (some ⟨b, 0, none⟩)] w fun e w' => e = .returned (.int .i64 A.first) ∧ Below w.heap.size w w' := by
  refine (first_ok w base b mb A h).mono ?_
  rintro e w' ⟨rfl, rfl⟩
  exact ⟨rfl, Below.refl _ _⟩

/-- Is a vote for x's slot, and not below x, among these? -/
def there (x : Vt) (l : List Vt) : Bool := l.any fun y => y.s == x.s && !lessB y.r y.n x.r x.n
theorem there_snoc (x : Vt) (l : List Vt) (n : Nat) (hn : n < l.length) : there x (l.take (n + 1)) = (there x (l.take n) || (l[n].s == x.s && !lessB l[n].r l[n].n x.r x.n)) := by
  rw [List.take_succ_eq_append_getElem hn, there, List.any_append]
  simp [there]
theorem there_yes {x : Vt} {l : List Vt} {f : Int} (h : x.s < f ∨ ∃ y ∈ l.map lv, y.s = x.s ∧ lessB y.r y.n x.r x.n = false) : (decide (x.s < f) || there x l) = true := by
  rcases h with h | ⟨y, hy, h1, h2⟩
  · simp [h]
  · obtain ⟨z, hz, rfl⟩ := List.mem_map.1 hy
    simp only [lv] at h1 h2
    have : there x l = true := List.any_eq_true.2 ⟨z, hz, by simp [h1, h2]⟩
    simp [this]

theorem keeps_ok (w : World) (a0 : Option Addr) (l0 : List OpV) (cap0 : Nat) (hl0 : l0.length ≤ 9223372036854775807) (hat0 : RowsAt w a0 5 (l0.map ocells)) (hok0 : ∀ k (hk : k < l0.length), GoodO w (l0[k]))
    (a : Option Addr) (l : List OpV) (cap : Nat) (hl : l.length ≤ 9223372036854775807) (hat : RowsAt w a 5 (l.map ocells)) (hok : ∀ k (hk : k < l.length), GoodO w (l[k])) :
    Calls Try.prog 5 #[.slice a0 l0.length cap0, .slice a l.length cap] w fun e w' => e = .returned (.bool true) ∧ Below w.heap.size w w' := by
  have HR := Lib.hid (fun (wr : World) (hb : Below w.heap.size w wr) k hk => row_op (hat.below hb) k hk)
  have HOK := Lib.hid (fun (wr : World) (hb : Below w.heap.size w wr) k hk => (hok k hk).below hb)
  have HRAN := Lib.hid (ran_ok w a0 l0 cap0 hl0 hat0 hok0)
  have HBAL := Lib.hid (fun k => bal_st (bal_st bal_start l0) (l.take k))
  obtain ⟨A0, hA0⟩ : ∃ A0, A0 = stOf startS l0 := ⟨_, rfl⟩
  rw [← hA0] at HRAN HBAL
  clear hat hok hat0 hok0 hA0 hl0
  go_enter Try.func5, Try.ntmps5
  go_wp2_with fail
  refine HRAN.out.mono ?_; rintro e w1 ⟨rfl, hA1, hb1⟩
  have HA1 := Lib.hid hA1
  have HB1 := Lib.hid hb1
  clear hA1 hb1 HRAN
  go_wp2_with fail
  refine (awake_any w1).mono ?_; rintro e w2 ⟨rfl, hb2⟩
  have HA2 := Lib.hid (HA1.out.below hb2)
  have HB2 := Lib.hid (below_step HB1.out hb2)
  clear hb2 HA1 HB1
  go_wp2_with fail
  obtain ⟨b, hbdef⟩ : ∃ b, b = w.heap.size + 1 := ⟨_, rfl⟩
  obtain ⟨mb, hmdef⟩ : ∃ mb, mb = w.heap.size := ⟨_, rfl⟩
  have HA2' : Hid (AccIs w2 w.heap.size b mb A0) := by rw [hbdef, hmdef]; exact HA2.out
  rw [← hbdef]
  have hbb : w.heap.size ≤ b := by omega
  have hmm : w.heap.size ≤ mb := by omega
  clear HA2 hbdef hmdef
  go_loopw [6] (fun i wr => ∃ k : Nat, k ≤ l.length ∧ i = .int .i64 k ∧ Hid (AccIs wr w.heap.size b mb (stOf A0 (l.take k))) ∧ Hid (Below w.heap.size w wr)) (fun i _ => l.length - (intOf i).toNat)
  case atStart => exact ⟨0, Nat.zero_le _, rfl, HA2', HB2⟩
  case round =>
    obtain ⟨k, hk, rfl, hL, hB⟩ := hrel
    by_cases hlt : k < l.length
    · have HS := Lib.hid (stOf_snoc A0 l k hlt)
      have HBK := Lib.hid (HBAL.out k)
      have HBK1 := Lib.hid (HBAL.out (k + 1))
      have HGO := Lib.hid (fun wx hb => HOK.out wx hb k hlt)
      have HRO := Lib.hid (fun wx hb => HR.out wx hb k hlt)
      obtain ⟨o, ho⟩ : ∃ o, o = l[k] := ⟨_, rfl⟩
      rw [← ho] at HS HGO HRO
      obtain ⟨A, hA⟩ : ∃ A, A = stOf A0 (l.take k) := ⟨_, rfl⟩
      rw [← hA] at hL HS HBK
      obtain ⟨A', hA'⟩ : ∃ A', A' = stOf A0 (l.take (k + 1)) := ⟨_, rfl⟩
      rw [← hA'] at HS HBK1
      have HREL := Lib.hid (fun wz (h : Hid (AccIs wz w.heap.size b mb A')) => (by rw [← hA']; exact h : Hid (AccIs wz w.heap.size b mb (stOf A0 (l.take (k + 1))))))
      clear ho hA hA'
      have hsz := hB.out.size
      have HV := Lib.hid (votes_row wr _ _ _ _ hL.out)
      go_wp2_with fail
      refine HV.out.mono ?_; rintro e w3 ⟨av, cv, xs, rfl, hrow, hxs, hb3⟩
      have HA3 := Lib.hid (hL.out.below hb3)
      have HB3 := Lib.hid (below_step hB.out hb3)
      have HRW3 := Lib.hid hrow
      have HXS := Lib.hid hxs
      have HP := Lib.hid (promised_ok w3 _ _ _ _ HA3.out)
      clear hb3 hrow hxs HV
      go_wp2_with fail
      refine HP.out.mono ?_; rintro e w4 ⟨rfl, hb4⟩
      have HA4 := Lib.hid (HA3.out.below hb4)
      have HB4 := Lib.hid (below_step HB3.out hb4)
      have HRW4 := Lib.hid (HRW3.out.below hb4)
      have HF := Lib.hid (first_ok w4 _ _ _ _ HA4.out)
      clear hb4 HP HRW3 HA3 HB3
      go_wp2_with fail
      refine HF.out.mono ?_; rintro e w5 ⟨rfl, rfl⟩
      have hn5 := hp_alloc_new w4 (.cells #[.int .i64 A.r, .int .i64 A.n] 28)
      have hb5 := below_new1 w4 (.cells #[.int .i64 A.r, .int .i64 A.n] 28)
      have HBE0 := Lib.hid (⟨HA4.out.below hb5, below_step HB4.out hb5, HRW4.out.below hb5, hn5⟩ : Beh w b mb w4.heap.size A A (.slice av xs.length cv) xs _)
      obtain ⟨w6, hw6⟩ : ∃ w6, w6 = w4.alloc (.cells #[.int .i64 A.r, .int .i64 A.n] 28) := ⟨_, rfl⟩
      obtain ⟨pb, hpb⟩ : ∃ pb, pb = w4.heap.size := ⟨_, rfl⟩
      rw [← hw6, ← hpb] at HBE0
      have HW6 := Lib.hid hw6
      have HPB := Lib.hid hpb
      obtain ⟨g, off, rfl, hgz, r0, r1, r2, r3, r4⟩ := HRO.out w6 HBE0.out.below
      have hgo := HGO.out w6 HBE0.out.below
      have HG := Lib.hid hgo
      clear hn5 hb5 HF HA4 HB4 HRW4 hw6 hpb hgo hL hB
      go_upto_region 8 with fail
      rw [← HW6.out, ← HPB.out]
      go_upto_block 2 with fail
      go_cut [] from 40 to 69 (fun wx => Hid (Beh w b mb pb A A' (.slice av xs.length cv) xs wx))
      case first =>
        by_cases hk1 : o.kind = 1
        · have e1 : (o.kind == 1) = true := by simp [hk1]
          have hst := HS.out.trans (opS_1 A o hk1)
          have HC := Lib.hid (prepare_ok w6.drew w.heap.size b mb A o.r o.n o.s (HBE0.out.acc.below (below_drewN (Below.refl _ w6) 1)))
          have HST := Lib.hid hst
          clear hk1 hst
          go_wp2_with fail
          go_still_tail 11, (by kernel_rfl)
          change wpList _ _ _ _ _ w6.drew
          go_wp2_with fail
          refine HC.out.mono ?_; rintro e w7 ⟨v7, rfl, _, hl7, hk7⟩
          have HBE := Lib.hid ((HBE0.out.old (below_drewN (Below.refl _ w6) 1)).keep hbb hmm (by rw [HST.out]; exact hl7) hk7 : Beh w b mb pb A A' (.slice av xs.length cv) xs w7)
          clear hl7 hk7 HC
          go_wp2_with fail
          go_meet
          case rel => exact HBE
        · by_cases hk2 : o.kind = 2
          · have e1 : (o.kind == 1) = false := by simp [hk2]
            have e2 : (o.kind == 2) = true := by simp [hk2]
            have HST := Lib.hid (HS.out.trans (opS_2 A o hk2))
            have HC := Lib.hid (forget_ok w6 w.heap.size b mb A o.s HBE0.out.acc)
            clear hk1 hk2
            go_wp2_with fail
            refine HC.out.mono ?_; rintro e w7 ⟨rfl, hl7, hk7⟩
            have HBE := Lib.hid (HBE0.out.keep hbb hmm (by rw [HST.out]; exact hl7) hk7 : Beh w b mb pb A A' (.slice av xs.length cv) xs w7)
            clear hl7 hk7 HC
            go_wp2_with fail
            go_meet
            case rel => exact HBE
          · have HST := Lib.hid (HS.out.trans (opS_3 A o hk1 hk2))
            have e1 : (o.kind == 1) = false := by simpa using hk1
            have e2 : (o.kind == 2) = false := by simpa using hk2
            have HV := Lib.hid (vote_ok w6 o)
            have HAC := Lib.hid (fun w2 (hb : Below w6.heap.size w6 w2) => accept_ok w2 w.heap.size b mb A o.vt (HBE0.out.acc.below hb) (Nat.le_trans HBE0.out.below.size hb.size) (HG.out.below hb).rd HG.out.slot.1 HG.out.slot.2)
            go_wp2_with fail
            refine HV.out.mono ?_; rintro e w7 ⟨rfl, hb7⟩
            have HC := Lib.hid (HAC.out w7 hb7)
            have HBE7 := Lib.hid (HBE0.out.old hb7)
            simp only [Vt.val] at HC ⊢
            clear hb7 HAC HV
            go_wp2_with fail
            refine HC.out.mono ?_; rintro e w8 ⟨rfl, hl8, hk8⟩
            have HBE := Lib.hid (HBE7.out.keep hbb hmm (by rw [HST.out]; exact hl8) hk8 : Beh w b mb pb A A' (.slice av xs.length cv) xs w8)
            clear hl8 hk8 HC
            go_wp2_with fail
            go_meet
            case rel => exact HBE
      case rest =>
        have HBE := hcut
        clear HGO HRO HG r0 r1 r2 r3 r4 hgz HOK HR HBE0 HW6 HPB hcut
        obtain ⟨hK1, hK2, hK3⟩ := op_keeps A o HBK.out
        rw [← HS.out] at hK1 hK2 hK3
        have HK1 := Lib.hid hK1
        have HK3 := Lib.hid hK3
        have hlen := is_len HBE.out.acc
        have hone := is_one HBE.out.acc
        have HORD := Lib.hid (is_ord HBE.out.acc)
        have HRNG := Lib.hid (is_rng HBE.out.acc)
        have HV := Lib.hid (votes_row wc _ _ _ _ HBE.out.acc)
        clear hK1 hK3
        go_wp2_with fail
        refine HV.out.mono ?_; rintro e w8 ⟨ay, cy, ys, rfl, hrow, hys, hb8⟩
        have hyl : ys.length ≤ 16 := by have h := congrArg List.length hys; rw [List.length_map] at h; omega
        have HBE8 := Lib.hid (HBE.out.old hb8)
        have HRY := Lib.hid hrow
        have HYS := Lib.hid hys
        obtain ⟨p0, p1, -, -, -⟩ := blk2 HBE8.out.box
        have t1 : decide (A'.first < A.first) = false := decide_eq_false (by omega)
        have t2 : decide ((16 : Int) < (ys.length : Int)) = false := decide_eq_false (by omega)
        clear hb8 hrow hys HBE HV
        go_wp2_with fail
        have hStab : ∀ Wx Wy : World, Below Wx.heap.size Wx Wy → (Wx.cell? ⟨pb, 0, none⟩ = some (.int .i64 A.r) ∧ Wx.cell? ⟨pb, 1, none⟩ = some (.int .i64 A.n) ∧ Below w8.heap.size w8 Wx) → (Wy.cell? ⟨pb, 0, none⟩ = some (.int .i64 A.r) ∧ Wy.cell? ⟨pb, 1, none⟩ = some (.int .i64 A.n) ∧ Below w8.heap.size w8 Wy) := by
          intro Wx Wy kk hs
          obtain ⟨s0, s1, s2⟩ := hs
          exact ⟨cell_step s0 kk, cell_step s1 kk, below_step s2 kk⟩
        have HhStab := Lib.hid hStab
        clear hStab
        have lP : Hid (∀ Wx : World, (Wx.cell? ⟨pb, 0, none⟩ = some (.int .i64 A.r) ∧ Wx.cell? ⟨pb, 1, none⟩ = some (.int .i64 A.n) ∧ Below w8.heap.size w8 Wx) → Calls Try.prog 21 #[.pointer (some ⟨b, 0, none⟩)] Wx fun e w' => e = .returned (.agg #[.int .i64 A'.r, .int .i64 A'.n]) ∧ Below Wx.heap.size Wx w') := by
          intro Wx hs
          obtain ⟨s0, s1, s2⟩ := hs
          have hK := s2
          exact promised_ok _ _ _ _ _ (HBE8.out.acc.below hK)
        have lF : Hid (∀ Wx : World, (Wx.cell? ⟨pb, 0, none⟩ = some (.int .i64 A.r) ∧ Wx.cell? ⟨pb, 1, none⟩ = some (.int .i64 A.n) ∧ Below w8.heap.size w8 Wx) → Calls Try.prog 18 #[.pointer (some ⟨b, 0, none⟩)] Wx fun e w' => e = .returned (.int .i64 A'.first) ∧ Below Wx.heap.size Wx w') := by
          intro Wx hs
          obtain ⟨s0, s1, s2⟩ := hs
          have hK := s2
          exact (first_b _ _ _ _ _ (HBE8.out.acc.below hK))
        go_region_held3 (fun w' => w'.cell? ⟨pb, 0, none⟩ = some (.int .i64 A.r) ∧ w'.cell? ⟨pb, 1, none⟩ = some (.int .i64 A.n) ∧ Below w8.heap.size w8 w') (first | (exact ⟨p0, p1, below_drewN (Below.refl _ _) 1⟩) | (refine HhStab.out _ _ hbn ?_; assumption)) (first | (go_at_call 21; refine ((lP.out _ (by assumption))).mono ?_; rintro e wn ⟨rfl, hbn⟩) | (go_at_call 18; refine ((lF.out _ (by assumption))).mono ?_; rintro e wn ⟨rfl, hbn⟩) | (go_at_call 24; refine ((lessL _ _ _ _ _)).mono ?_; rw [HK1.out]; rintro e wn ⟨rfl, hbn⟩))
        have hS15 : wn.cell? ⟨pb, 0, none⟩ = some (.int .i64 A.r) ∧ wn.cell? ⟨pb, 1, none⟩ = some (.int .i64 A.n) ∧ Below w8.heap.size w8 wn := by assumption
        have HB9 := Lib.hid hS15.2.2
        go_wp2_with fail
        have hfit : ∀ i (hi : i < ys.length), ys[i].s < A'.first + 16 ∧ A'.first ≤ ys[i].s ∧ lessB A'.r A'.n ys[i].r ys[i].n = false := by
          intro i hi
          have hm : lv ys[i] ∈ A'.vs := by rw [← HYS.out]; exact List.mem_map_of_mem (List.getElem_mem hi)
          exact ⟨(HRNG.out _ hm).2, (HRNG.out _ hm).1, HBK1.out _ hm⟩
        have hrise : ∀ i (hi : i + 1 < ys.length), ys[i].s < ys[i + 1].s := by
          intro i hi
          have hp := HORD.out
          rw [← HYS.out] at hp
          exact List.pairwise_iff_getElem.1 (List.pairwise_map.1 hp) i (i + 1) (by omega) hi (by omega)
        have HFT := Lib.hid hfit
        have HRI := Lib.hid hrise
        clear hfit hrise p0 p1 t1 t2 hS15
        go_loopw [11] (fun i wz => ∃ j : Nat, j ≤ ys.length ∧ i = .int .i64 j ∧ Hid (Below w8.heap.size w8 wz)) (fun i _ => ys.length - (intOf i).toNat)
        case atStart => exact ⟨0, Nat.zero_le _, rfl, HB9⟩
        case round =>
          obtain ⟨wo, rfl⟩ : ∃ wo : World, wo = wr := ⟨_, rfl⟩
          obtain ⟨j, hj, rfl, hBz⟩ := hrel
          have HBZ := hBz
          clear hBz
          by_cases hjl : j < ys.length
          · obtain ⟨gy, c9, e9, hgy, hcap9, q0, q1, q2, q3⟩ := (HRY.out.below HBZ.out).cells hjl
            simp only [Value.slice.injEq, true_and] at e9
            obtain ⟨rfl, rfl⟩ := e9
            obtain ⟨hf1, hf2, hf3⟩ := HFT.out j hjl
            have hone8 := hone
            obtain ⟨y, hy⟩ : ∃ y, y = ys[j] := ⟨_, rfl⟩
            rw [← hy] at q0 q1 q2 q3 hf1 hf2 hf3
            have hN : lessB A'.r A'.n y.r y.n = false := hf3
            have u1 : decide (y.s < A'.first) = false := decide_eq_false (by omega)
            have hsub : IntKind.i64.wrap (y.s - A'.first) = y.s - A'.first := IntWalk.i64_in _ (by omega)
            have u2 : decide ((16 : Int) ≤ y.s - A'.first) = false := decide_eq_false (by omega)
            clear hf3 hone8
            by_cases hj0 : j = 0
            · subst hj0
              simp only [Nat.zero_mul, Nat.zero_add] at q0 q1 q2
              clear hy
              go_wp2_with fail
              have hStab : ∀ Wx Wy : World, Below Wx.heap.size Wx Wy → (Wx.cell? ⟨gy, 0, none⟩ = some (.int .i64 y.s) ∧ Wx.cell? ⟨gy, 1, none⟩ = some (.int .i64 y.r) ∧ Wx.cell? ⟨gy, 2, none⟩ = some (.int .i64 y.n) ∧ Below w8.heap.size w8 Wx) → (Wy.cell? ⟨gy, 0, none⟩ = some (.int .i64 y.s) ∧ Wy.cell? ⟨gy, 1, none⟩ = some (.int .i64 y.r) ∧ Wy.cell? ⟨gy, 2, none⟩ = some (.int .i64 y.n) ∧ Below w8.heap.size w8 Wy) := by
                intro Wx Wy kk hs
                obtain ⟨s0, s1, s2, s3⟩ := hs
                exact ⟨cell_step s0 kk, cell_step s1 kk, cell_step s2 kk, below_step s3 kk⟩
              have HhStab := Lib.hid hStab
              clear hStab
              have lP : Hid (∀ Wx : World, (Wx.cell? ⟨gy, 0, none⟩ = some (.int .i64 y.s) ∧ Wx.cell? ⟨gy, 1, none⟩ = some (.int .i64 y.r) ∧ Wx.cell? ⟨gy, 2, none⟩ = some (.int .i64 y.n) ∧ Below w8.heap.size w8 Wx) → Calls Try.prog 21 #[.pointer (some ⟨b, 0, none⟩)] Wx fun e w' => e = .returned (.agg #[.int .i64 A'.r, .int .i64 A'.n]) ∧ Below Wx.heap.size Wx w') := by
                intro Wx hs
                obtain ⟨s0, s1, s2, s3⟩ := hs
                have hK := s3
                exact promised_ok _ _ _ _ _ (HBE8.out.acc.below hK)
              have lF : Hid (∀ Wx : World, (Wx.cell? ⟨gy, 0, none⟩ = some (.int .i64 y.s) ∧ Wx.cell? ⟨gy, 1, none⟩ = some (.int .i64 y.r) ∧ Wx.cell? ⟨gy, 2, none⟩ = some (.int .i64 y.n) ∧ Below w8.heap.size w8 Wx) → Calls Try.prog 18 #[.pointer (some ⟨b, 0, none⟩)] Wx fun e w' => e = .returned (.int .i64 A'.first) ∧ Below Wx.heap.size Wx w') := by
                intro Wx hs
                obtain ⟨s0, s1, s2, s3⟩ := hs
                have hK := s3
                exact (first_b _ _ _ _ _ (HBE8.out.acc.below hK))
              refine wp_region_held_drew (S := (fun w' => w'.cell? ⟨gy, 0, none⟩ = some (.int .i64 y.s) ∧ w'.cell? ⟨gy, 1, none⟩ = some (.int .i64 y.r) ∧ w'.cell? ⟨gy, 2, none⟩ = some (.int .i64 y.n) ∧ Below w8.heap.size w8 w')) (by kernel_rfl) ⟨q0, q1, q2, below_drewN HBZ.out 1⟩ (fun hHeld => ?_)
              refine kit6.take_y (i := 0) (v := ?_) rfl (by kernel_rfl) (by kernel_rfl) (by kernel_rfl) (fun _ _ _ h => h) (by rfl) (by assumption) ?_ ?_
              rotate_left
              · intro w hSw
                try dsimp only at hSw
                go_simp
                try with_reducible rfl
              try simp only [Act.put, List.setIfInBounds_toArray, List.set_cons_zero, List.set_cons_succ]
              refine kit6.take_y (i := 2) (v := ?_) rfl (by kernel_rfl) (by kernel_rfl) (by kernel_rfl) (fun _ _ _ h => h) (by rfl) (by assumption) ?_ ?_
              rotate_left
              · intro w hSw
                try dsimp only at hSw
                go_simp
                try with_reducible rfl
              try simp only [Act.put, List.setIfInBounds_toArray, List.set_cons_zero, List.set_cons_succ]
              refine kit6.take_y (i := 3) (v := ?_) rfl (by kernel_rfl) (by kernel_rfl) (by kernel_rfl) (fun _ _ _ h => h) (by rfl) (by assumption) ?_ ?_
              rotate_left
              · intro w hSw
                try dsimp only at hSw
                go_simp
                try with_reducible rfl
              try simp only [Act.put, List.setIfInBounds_toArray, List.set_cons_zero, List.set_cons_succ]
              refine kit6.take_y (i := 4) (v := ?_) rfl (by kernel_rfl) (by kernel_rfl) (by kernel_rfl) (fun _ _ _ h => h) (by rfl) (by assumption) ?_ ?_
              rotate_left
              · intro w hSw
                try dsimp only at hSw
                go_simp
                try with_reducible rfl
              try simp only [Act.put, List.setIfInBounds_toArray, List.set_cons_zero, List.set_cons_succ]
              refine kit6.take_y (i := 5) (v := ?_) rfl (by kernel_rfl) (by kernel_rfl) (by kernel_rfl) (fun _ _ _ h => h) (by rfl) (by assumption) ?_ ?_
              rotate_left
              · intro w hSw
                try dsimp only at hSw
                go_simp
                try with_reducible rfl
              try simp only [Act.put, List.setIfInBounds_toArray, List.set_cons_zero, List.set_cons_succ]
              refine kit6.take_y (i := 6) (v := ?_) rfl (by kernel_rfl) (by kernel_rfl) (by kernel_rfl) (fun _ _ _ h => h) (by rfl) (by assumption) ?_ ?_
              rotate_left
              · intro w hSw
                try dsimp only at hSw
                go_simp
                try with_reducible rfl
              try simp only [Act.put, List.setIfInBounds_toArray, List.set_cons_zero, List.set_cons_succ]
              refine kit6.take_c (i := 1) rfl (by kernel_rfl) (by rfl) (fun K hK => ?_)
              go_simp
              go_at_call 21; refine (lP.out _ (by assumption)).mono ?_; rintro e wn ⟨rfl, hbn⟩
              dsimp only
              refine hK.out _ _ (by refine HhStab.out _ _ hbn ?_; assumption) (fun hHeld => ?_)
              clear hK K
              try simp only [Act.put, List.setIfInBounds_toArray, List.set_cons_zero, List.set_cons_succ]
              refine kit6.take_c (i := 7) rfl (by kernel_rfl) (by rfl) (fun K hK => ?_)
              go_simp
              go_at_call 24; refine (lessL _ _ _ _ _).mono ?_; rw [hN]; rintro e wn ⟨rfl, hbn⟩
              dsimp only
              refine hK.out _ _ (by refine HhStab.out _ _ hbn ?_; assumption) (fun hHeld => ?_)
              clear hK K
              try simp only [Act.put, List.setIfInBounds_toArray, List.set_cons_zero, List.set_cons_succ]
              refine kit6.take_y (i := 8) (v := ?_) rfl (by kernel_rfl) (by kernel_rfl) (by kernel_rfl) (fun _ _ _ h => h) (by rfl) (by assumption) ?_ ?_
              rotate_left
              · intro w hSw
                try dsimp only at hSw
                go_simp
                try with_reducible rfl
              try simp only [Act.put, List.setIfInBounds_toArray, List.set_cons_zero, List.set_cons_succ]
              refine kit6.take_y (i := 9) (v := ?_) rfl (by kernel_rfl) (by kernel_rfl) (by kernel_rfl) (fun _ _ _ h => h) (by rfl) (by assumption) ?_ ?_
              rotate_left
              · intro w hSw
                try dsimp only at hSw
                go_simp
                try with_reducible rfl
              try simp only [Act.put, List.setIfInBounds_toArray, List.set_cons_zero, List.set_cons_succ]
              refine kit6.take_y (i := 10) (v := ?_) rfl (by kernel_rfl) (by kernel_rfl) (by kernel_rfl) (fun _ _ _ h => h) (by rfl) (by assumption) ?_ ?_
              rotate_left
              · intro w hSw
                try dsimp only at hSw
                go_simp
                try with_reducible rfl
              try simp only [Act.put, List.setIfInBounds_toArray, List.set_cons_zero, List.set_cons_succ]
              refine kit6.take_y (i := 11) (v := ?_) rfl (by kernel_rfl) (by kernel_rfl) (by kernel_rfl) (fun _ _ _ h => h) (by rfl) (by assumption) ?_ ?_
              rotate_left
              · intro w hSw
                try dsimp only at hSw
                go_simp
                try with_reducible rfl
              try simp only [Act.put, List.setIfInBounds_toArray, List.set_cons_zero, List.set_cons_succ]
              refine kit6.take_y (i := 12) (v := ?_) rfl (by kernel_rfl) (by kernel_rfl) (by kernel_rfl) (fun _ _ _ h => h) (by rfl) (by assumption) ?_ ?_
              rotate_left
              · intro w hSw
                try dsimp only at hSw
                go_simp
                try with_reducible rfl
              try simp only [Act.put, List.setIfInBounds_toArray, List.set_cons_zero, List.set_cons_succ]
              refine kit6.take_y (i := 13) (v := ?_) rfl (by kernel_rfl) (by kernel_rfl) (by kernel_rfl) (fun _ _ _ h => h) (by rfl) (by assumption) ?_ ?_
              rotate_left
              · intro w hSw
                try dsimp only at hSw
                go_simp
                try with_reducible rfl
              try simp only [Act.put, List.setIfInBounds_toArray, List.set_cons_zero, List.set_cons_succ]
              refine kit6.take_y (i := 14) (v := ?_) rfl (by kernel_rfl) (by kernel_rfl) (by kernel_rfl) (fun _ _ _ h => h) (by rfl) (by assumption) ?_ ?_
              rotate_left
              · intro w hSw
                try dsimp only at hSw
                go_simp
                try with_reducible rfl
              try simp only [Act.put, List.setIfInBounds_toArray, List.set_cons_zero, List.set_cons_succ]
              refine kit6.take_c (i := 15) rfl (by kernel_rfl) (by rfl) (fun K hK => ?_)
              go_simp
              go_at_call 18; refine (lF.out _ (by assumption)).mono ?_; rintro e wn ⟨rfl, hbn⟩
              dsimp only
              refine hK.out _ _ (by refine HhStab.out _ _ hbn ?_; assumption) (fun hHeld => ?_)
              clear hK K
              try simp only [Act.put, List.setIfInBounds_toArray, List.set_cons_zero, List.set_cons_succ]
              refine kit6.take_y (i := 16) (v := ?_) rfl (by kernel_rfl) (by kernel_rfl) (by kernel_rfl) (fun _ _ _ h => h) (by rfl) (by assumption) ?_ ?_
              rotate_left
              · intro w hSw
                try dsimp only at hSw
                go_simp
                try with_reducible rfl
              try simp only [Act.put, List.setIfInBounds_toArray, List.set_cons_zero, List.set_cons_succ]
              refine kit6.take_y (i := 17) (v := ?_) rfl (by kernel_rfl) (by kernel_rfl) (by kernel_rfl) (fun _ _ _ h => h) (by rfl) (by assumption) ?_ ?_
              rotate_left
              · intro w hSw
                try dsimp only at hSw
                go_simp
                try with_reducible rfl
              try simp only [Act.put, List.setIfInBounds_toArray, List.set_cons_zero, List.set_cons_succ]
              refine kit6.take_y (i := 18) (v := ?_) rfl (by kernel_rfl) (by kernel_rfl) (by kernel_rfl) (fun _ _ _ h => h) (by rfl) (by assumption) ?_ ?_
              rotate_left
              · intro w hSw
                try dsimp only at hSw
                go_simp
                try with_reducible rfl
              try simp only [Act.put, List.setIfInBounds_toArray, List.set_cons_zero, List.set_cons_succ]
              refine kit6.take_y (i := 19) (v := ?_) rfl (by kernel_rfl) (by kernel_rfl) (by kernel_rfl) (fun _ _ _ h => h) (by rfl) (by assumption) ?_ ?_
              rotate_left
              · intro w hSw
                try dsimp only at hSw
                go_simp
                try with_reducible rfl
              try simp only [Act.put, List.setIfInBounds_toArray, List.set_cons_zero, List.set_cons_succ]
              refine kit6.take_y (i := 20) (v := ?_) rfl (by kernel_rfl) (by kernel_rfl) (by kernel_rfl) (fun _ _ _ h => h) (by rfl) (by assumption) ?_ ?_
              rotate_left
              · intro w hSw
                try dsimp only at hSw
                go_simp
                try with_reducible rfl
              try simp only [Act.put, List.setIfInBounds_toArray, List.set_cons_zero, List.set_cons_succ]
              refine kit6.take_y (i := 21) (v := ?_) rfl (by kernel_rfl) (by kernel_rfl) (by kernel_rfl) (fun _ _ _ h => h) (by rfl) (by assumption) ?_ ?_
              rotate_left
              · intro w hSw
                try dsimp only at hSw
                go_simp
                try with_reducible rfl
              try simp only [Act.put, List.setIfInBounds_toArray, List.set_cons_zero, List.set_cons_succ]
              refine kit6.take_y (i := 22) (v := ?_) rfl (by kernel_rfl) (by kernel_rfl) (by kernel_rfl) (fun _ _ _ h => h) (by rfl) (by assumption) ?_ ?_
              rotate_left
              · intro w hSw
                try dsimp only at hSw
                go_simp
                try with_reducible rfl
              try simp only [Act.put, List.setIfInBounds_toArray, List.set_cons_zero, List.set_cons_succ]
              refine kit6.take_y (i := 23) (v := ?_) rfl (by kernel_rfl) (by kernel_rfl) (by kernel_rfl) (fun _ _ _ h => h) (by rfl) (by assumption) ?_ ?_
              rotate_left
              · intro w hSw
                try dsimp only at hSw
                go_simp
                try with_reducible rfl
              try simp only [Act.put, List.setIfInBounds_toArray, List.set_cons_zero, List.set_cons_succ]
              refine kit6.take_y (i := 24) (v := ?_) rfl (by kernel_rfl) (by kernel_rfl) (by kernel_rfl) (fun _ _ _ h => h) (by rfl) (by assumption) ?_ ?_
              rotate_left
              · intro w hSw
                try dsimp only at hSw
                go_simp
                try with_reducible rfl
              try simp only [Act.put, List.setIfInBounds_toArray, List.set_cons_zero, List.set_cons_succ]
              refine kit6.take_c (i := 25) rfl (by kernel_rfl) (by rfl) (fun K hK => ?_)
              go_simp
              go_at_call 18; refine (lF.out _ (by assumption)).mono ?_; rintro e wn ⟨rfl, hbn⟩
              dsimp only
              refine hK.out _ _ (by refine HhStab.out _ _ hbn ?_; assumption) (fun hHeld => ?_)
              clear hK K
              try simp only [Act.put, List.setIfInBounds_toArray, List.set_cons_zero, List.set_cons_succ]
              refine kit6.take_y (i := 26) (v := ?_) rfl (by kernel_rfl) (by kernel_rfl) (by kernel_rfl) (fun _ _ _ h => h) (by rfl) (by assumption) ?_ ?_
              rotate_left
              · intro w hSw
                try dsimp only at hSw
                go_simp
                try with_reducible rfl
              try simp only [Act.put, List.setIfInBounds_toArray, List.set_cons_zero, List.set_cons_succ]
              refine kit6.take_y (i := 27) (v := ?_) rfl (by kernel_rfl) (by kernel_rfl) (by kernel_rfl) (fun _ _ _ h => h) (by rfl) (by assumption) ?_ ?_
              rotate_left
              · intro w hSw
                try dsimp only at hSw
                go_simp
                try with_reducible rfl
              try simp only [Act.put, List.setIfInBounds_toArray, List.set_cons_zero, List.set_cons_succ]
              refine kit6.take_y (i := 28) (v := ?_) rfl (by kernel_rfl) (by kernel_rfl) (by kernel_rfl) (fun _ _ _ h => h) (by rfl) (by assumption) ?_ ?_
              rotate_left
              · intro w hSw
                try dsimp only at hSw
                go_simp
                try with_reducible rfl
              try simp only [Act.put, List.setIfInBounds_toArray, List.set_cons_zero, List.set_cons_succ]
              refine kit6.take_y (i := 29) (v := ?_) rfl (by kernel_rfl) (by kernel_rfl) (by kernel_rfl) (fun _ _ _ h => h) (by rfl) (by assumption) ?_ ?_
              rotate_left
              · intro w hSw
                try dsimp only at hSw
                go_simp
                try with_reducible rfl
              try simp only [Act.put, List.setIfInBounds_toArray, List.set_cons_zero, List.set_cons_succ]
              refine kit6.take_y (i := 30) (v := ?_) rfl (by kernel_rfl) (by kernel_rfl) (by kernel_rfl) (fun _ _ _ h => h) (by rfl) (by assumption) ?_ ?_
              rotate_left
              · intro w hSw
                try dsimp only at hSw
                go_simp
                try with_reducible rfl
              try simp only [Act.put, List.setIfInBounds_toArray, List.set_cons_zero, List.set_cons_succ]
              refine kit6.take_y (i := 31) (v := ?_) rfl (by kernel_rfl) (by kernel_rfl) (by kernel_rfl) (fun _ _ _ h => h) (by rfl) (by assumption) ?_ ?_
              rotate_left
              · intro w hSw
                try dsimp only at hSw
                go_simp
                try with_reducible rfl
              try simp only [Act.put, List.setIfInBounds_toArray, List.set_cons_zero, List.set_cons_succ]
              refine kit6.take_y (i := 32) (v := ?_) rfl (by kernel_rfl) (by kernel_rfl) (by kernel_rfl) (fun _ _ _ h => h) (by rfl) (by assumption) ?_ ?_
              rotate_left
              · intro w hSw
                try dsimp only at hSw
                go_simp
                try with_reducible rfl
              try simp only [Act.put, List.setIfInBounds_toArray, List.set_cons_zero, List.set_cons_succ]
              refine kit6.take_n (i := 33) rfl (by kernel_rfl) (by kernel_rfl) (by kernel_rfl) (fun _ _ _ h => h) (by rfl) (by assumption) ?_
              try simp only [Act.put, List.setIfInBounds_toArray, List.set_cons_zero, List.set_cons_succ]
              refine kit6.take_n (i := 34) rfl (by kernel_rfl) (by kernel_rfl) (by kernel_rfl) (fun _ _ _ h => h) (by rfl) (by assumption) ?_
              try simp only [Act.put, List.setIfInBounds_toArray, List.set_cons_zero, List.set_cons_succ]
              refine kit6.take_n (i := 35) rfl (by kernel_rfl) (by kernel_rfl) (by kernel_rfl) (fun _ _ _ h => h) (by rfl) (by assumption) ?_
              try simp only [Act.put, List.setIfInBounds_toArray, List.set_cons_zero, List.set_cons_succ]
              refine kit6.take_n (i := 36) rfl (by kernel_rfl) (by kernel_rfl) (by kernel_rfl) (fun _ _ _ h => h) (by rfl) (by assumption) ?_
              try simp only [Act.put, List.setIfInBounds_toArray, List.set_cons_zero, List.set_cons_succ]
              refine kit6.take_n (i := 37) rfl (by kernel_rfl) (by kernel_rfl) (by kernel_rfl) (fun _ _ _ h => h) (by rfl) (by assumption) ?_
              try simp only [Act.put, List.setIfInBounds_toArray, List.set_cons_zero, List.set_cons_succ]
              refine kit6.take_n (i := 38) rfl (by kernel_rfl) (by kernel_rfl) (by kernel_rfl) (fun _ _ _ h => h) (by rfl) (by assumption) ?_
              try simp only [Act.put, List.setIfInBounds_toArray, List.set_cons_zero, List.set_cons_succ]
              refine kit6.take_n (i := 39) rfl (by kernel_rfl) (by kernel_rfl) (by kernel_rfl) (fun _ _ _ h => h) (by rfl) (by assumption) ?_
              try simp only [Act.put, List.setIfInBounds_toArray, List.set_cons_zero, List.set_cons_succ]
              refine kit6.take_n (i := 40) rfl (by kernel_rfl) (by kernel_rfl) (by kernel_rfl) (fun _ _ _ h => h) (by rfl) (by assumption) ?_
              try simp only [Act.put, List.setIfInBounds_toArray, List.set_cons_zero, List.set_cons_succ]
              refine kit6.take_n (i := 41) rfl (by kernel_rfl) (by kernel_rfl) (by kernel_rfl) (fun _ _ _ h => h) (by rfl) (by assumption) ?_
              try simp only [Act.put, List.setIfInBounds_toArray, List.set_cons_zero, List.set_cons_succ]
              refine kit6.take_n (i := 42) rfl (by kernel_rfl) (by kernel_rfl) (by kernel_rfl) (fun _ _ _ h => h) (by rfl) (by assumption) ?_
              try simp only [Act.put, List.setIfInBounds_toArray, List.set_cons_zero, List.set_cons_succ]
              refine kit6.take_n (i := 43) rfl (by kernel_rfl) (by kernel_rfl) (by kernel_rfl) (fun _ _ _ h => h) (by rfl) (by assumption) ?_
              try simp only [Act.put, List.setIfInBounds_toArray, List.set_cons_zero, List.set_cons_succ]
              refine kit6.take_n (i := 44) rfl (by kernel_rfl) (by kernel_rfl) (by kernel_rfl) (fun _ _ _ h => h) (by rfl) (by assumption) ?_
              try simp only [Act.put, List.setIfInBounds_toArray, List.set_cons_zero, List.set_cons_succ]
              refine kit6.take_y (i := 45) (v := ?_) rfl (by kernel_rfl) (by kernel_rfl) (by kernel_rfl) (fun _ _ _ h => h) (by rfl) (by assumption) ?_ ?_
              rotate_left
              · intro w hSw
                try dsimp only at hSw
                go_simp
                try with_reducible rfl
              try simp only [Act.put, List.setIfInBounds_toArray, List.set_cons_zero, List.set_cons_succ]
              refine kit6.take_y (i := 46) (v := ?_) rfl (by kernel_rfl) (by kernel_rfl) (by kernel_rfl) (fun _ _ _ h => h) (by rfl) (by assumption) ?_ ?_
              rotate_left
              · intro w hSw
                try dsimp only at hSw
                go_simp
                try with_reducible rfl
              try simp only [Act.put, List.setIfInBounds_toArray, List.set_cons_zero, List.set_cons_succ]
              refine wpAnyH_done (by kernel_rfl) ?_ _
              have hS0 : wn.cell? ⟨gy, 0, none⟩ = some (.int .i64 y.s) ∧ wn.cell? ⟨gy, 1, none⟩ = some (.int .i64 y.r) ∧ wn.cell? ⟨gy, 2, none⟩ = some (.int .i64 y.n) ∧ Below w8.heap.size w8 wn := by assumption
              have HB10 := Lib.hid hS0.2.2.2
              go_wp2_with fail
              go_roundw
              case rel => exact ⟨0 + 1, by omega, by go_num, HB10⟩
              case measure => simp [intOf]; omega
            · obtain ⟨jm, hjm⟩ : ∃ i, j = i + 1 := ⟨j - 1, by omega⟩
              have hjl2 : jm < ys.length := by omega
              have hr : ys[jm].s < y.s := by
                have h := HRI.out jm (by omega)
                rw [hy]
                subst hjm
                exact h
              obtain ⟨gz, c8, e8, -, -, z0, -, -, -⟩ := (HRY.out.below HBZ.out).cells (i := jm) (by omega)
              simp only [Value.slice.injEq, true_and, Option.some.injEq, Addr.mk.injEq, and_true] at e8
              obtain ⟨rfl, rfl⟩ := e8
              obtain ⟨z, hz⟩ : ∃ z, z = ys[jm] := ⟨_, rfl⟩
              rw [← hz] at z0 hr
              have u3 : decide (y.s ≤ z.s) = false := decide_eq_false (by omega)
              have u4 : 0 < j := by omega
              have u5 : decide (0 < j) = true := decide_eq_true u4
              have hsub2 : IntKind.i64.wrap ((j : Int) - 1) = (jm : Int) := by rw [IntWalk.i64_in _ (by omega)]; omega
              clear hy hz hj0 hjm
              go_wp2_with fail
              have hStab : ∀ Wx Wy : World, Below Wx.heap.size Wx Wy → (Wx.cell? ⟨gy, j * 4, none⟩ = some (.int .i64 y.s) ∧ Wx.cell? ⟨gy, j * 4 + 1, none⟩ = some (.int .i64 y.r) ∧ Wx.cell? ⟨gy, j * 4 + 2, none⟩ = some (.int .i64 y.n) ∧ Wx.cell? ⟨gy, jm * 4, none⟩ = some (.int .i64 z.s) ∧ Below w8.heap.size w8 Wx) → (Wy.cell? ⟨gy, j * 4, none⟩ = some (.int .i64 y.s) ∧ Wy.cell? ⟨gy, j * 4 + 1, none⟩ = some (.int .i64 y.r) ∧ Wy.cell? ⟨gy, j * 4 + 2, none⟩ = some (.int .i64 y.n) ∧ Wy.cell? ⟨gy, jm * 4, none⟩ = some (.int .i64 z.s) ∧ Below w8.heap.size w8 Wy) := by
                intro Wx Wy kk hs
                obtain ⟨s0, s1, s2, s3, s4⟩ := hs
                exact ⟨cell_step s0 kk, cell_step s1 kk, cell_step s2 kk, cell_step s3 kk, below_step s4 kk⟩
              have HhStab := Lib.hid hStab
              clear hStab
              have lP : Hid (∀ Wx : World, (Wx.cell? ⟨gy, j * 4, none⟩ = some (.int .i64 y.s) ∧ Wx.cell? ⟨gy, j * 4 + 1, none⟩ = some (.int .i64 y.r) ∧ Wx.cell? ⟨gy, j * 4 + 2, none⟩ = some (.int .i64 y.n) ∧ Wx.cell? ⟨gy, jm * 4, none⟩ = some (.int .i64 z.s) ∧ Below w8.heap.size w8 Wx) → Calls Try.prog 21 #[.pointer (some ⟨b, 0, none⟩)] Wx fun e w' => e = .returned (.agg #[.int .i64 A'.r, .int .i64 A'.n]) ∧ Below Wx.heap.size Wx w') := by
                intro Wx hs
                obtain ⟨s0, s1, s2, s3, s4⟩ := hs
                have hK := s4
                exact promised_ok _ _ _ _ _ (HBE8.out.acc.below hK)
              have lF : Hid (∀ Wx : World, (Wx.cell? ⟨gy, j * 4, none⟩ = some (.int .i64 y.s) ∧ Wx.cell? ⟨gy, j * 4 + 1, none⟩ = some (.int .i64 y.r) ∧ Wx.cell? ⟨gy, j * 4 + 2, none⟩ = some (.int .i64 y.n) ∧ Wx.cell? ⟨gy, jm * 4, none⟩ = some (.int .i64 z.s) ∧ Below w8.heap.size w8 Wx) → Calls Try.prog 18 #[.pointer (some ⟨b, 0, none⟩)] Wx fun e w' => e = .returned (.int .i64 A'.first) ∧ Below Wx.heap.size Wx w') := by
                intro Wx hs
                obtain ⟨s0, s1, s2, s3, s4⟩ := hs
                have hK := s4
                exact (first_b _ _ _ _ _ (HBE8.out.acc.below hK))
              go_region_held3 (fun w' => w'.cell? ⟨gy, j * 4, none⟩ = some (.int .i64 y.s) ∧ w'.cell? ⟨gy, j * 4 + 1, none⟩ = some (.int .i64 y.r) ∧ w'.cell? ⟨gy, j * 4 + 2, none⟩ = some (.int .i64 y.n) ∧ w'.cell? ⟨gy, jm * 4, none⟩ = some (.int .i64 z.s) ∧ Below w8.heap.size w8 w') (first | (exact ⟨q0, q1, q2, z0, below_drewN HBZ.out 1⟩) | (refine HhStab.out _ _ hbn ?_; assumption)) (first | (go_at_call 21; refine ((lP.out _ (by assumption))).mono ?_; rintro e wn ⟨rfl, hbn⟩) | (go_at_call 18; refine ((lF.out _ (by assumption))).mono ?_; rintro e wn ⟨rfl, hbn⟩) | (go_at_call 24; refine ((lessL _ _ _ _ _)).mono ?_; rw [hN]; rintro e wn ⟨rfl, hbn⟩))
              have hS1 : wn.cell? ⟨gy, j * 4, none⟩ = some (.int .i64 y.s) ∧ wn.cell? ⟨gy, j * 4 + 1, none⟩ = some (.int .i64 y.r) ∧ wn.cell? ⟨gy, j * 4 + 2, none⟩ = some (.int .i64 y.n) ∧ wn.cell? ⟨gy, jm * 4, none⟩ = some (.int .i64 z.s) ∧ Below w8.heap.size w8 wn := by assumption
              have HB10 := Lib.hid hS1.2.2.2.2
              go_wp2_with fail
              go_roundw
              case rel => exact ⟨j + 1, by omega, by go_num, HB10⟩
              case measure => simp [intOf]; omega
          · obtain rfl : j = ys.length := by omega
            have HRX := Lib.hid HBE8.out.row
            have HYV := Lib.hid (show ys.map lv = A'.vs from HYS.out)
            clear HFT HRI HORD HRNG
            go_wp2_with fail
            go_loopw [12] (fun i wz => ∃ m : Nat, m ≤ xs.length ∧ i = .int .i64 m ∧ Hid (Below w8.heap.size w8 wz)) (fun i _ => xs.length - (intOf i).toNat)
            case atStart => exact ⟨0, Nat.zero_le _, rfl, HBZ⟩
            case round =>
              obtain ⟨wo2, rfl⟩ : ∃ wo2 : World, wo2 = wr := ⟨_, rfl⟩
              obtain ⟨m, hm, rfl, hBz⟩ := hrel
              clear HBZ
              have HBZ := hBz
              clear hBz
              by_cases hml : m < xs.length
              · obtain ⟨gx, c9, e9, hgx, hcap9, q0, q1, q2, q3⟩ := (HRX.out.below HBZ.out).cells hml
                simp only [Value.slice.injEq, true_and] at e9
                obtain ⟨rfl, rfl⟩ := e9
                have hpl : xs[m].s < A'.first ∨ ∃ y ∈ A'.vs, y.s = xs[m].s ∧ lessB y.r y.n xs[m].r xs[m].n = false := HK3.out (lv xs[m]) (by rw [← HXS.out]; exact List.mem_map_of_mem (List.getElem_mem hml))
                have HXC := Lib.hid (fun (wx : World) (hb : Below w8.heap.size w8 wx) => (HRX.out.below hb).cells hml)
                obtain ⟨x, hx⟩ : ∃ x, x = xs[m] := ⟨_, rfl⟩
                rw [← hx] at q0 q1 q2 q3 hpl HXC
                have HPL := Lib.hid hpl
                have hxl : xs.length ≤ 9223372036854775807 := by unfold maxLen at hcap9; omega
                clear hx hpl hcap9
                go_wp2_with fail
                have hStab : ∀ Wx Wy : World, Below Wx.heap.size Wx Wy → (Wx.cell? ⟨gx, m * 4, none⟩ = some (.int .i64 x.s) ∧ Below w8.heap.size w8 Wx) → (Wy.cell? ⟨gx, m * 4, none⟩ = some (.int .i64 x.s) ∧ Below w8.heap.size w8 Wy) := by
                  intro Wx Wy kk hs
                  obtain ⟨s0, s1⟩ := hs
                  exact ⟨cell_step s0 kk, below_step s1 kk⟩
                have HhStab := Lib.hid hStab
                clear hStab
                have lF : Hid (∀ Wx : World, (Wx.cell? ⟨gx, m * 4, none⟩ = some (.int .i64 x.s) ∧ Below w8.heap.size w8 Wx) → Calls Try.prog 18 #[.pointer (some ⟨b, 0, none⟩)] Wx fun e w' => e = .returned (.int .i64 A'.first) ∧ Below Wx.heap.size Wx w') := by
                  intro Wx hs
                  obtain ⟨s0, s1⟩ := hs
                  have hK := s1
                  exact (first_b _ _ _ _ _ (HBE8.out.acc.below hK))
                go_region_held3 (fun w' => w'.cell? ⟨gx, m * 4, none⟩ = some (.int .i64 x.s) ∧ Below w8.heap.size w8 w') (first | (exact ⟨q0, below_drewN HBZ.out 1⟩) | (refine HhStab.out _ _ hbn ?_; assumption)) (first | (go_at_call 18; refine ((lF.out _ (by assumption))).mono ?_; rintro e wn ⟨rfl, hbn⟩))
                have hS25 : wn.cell? ⟨gx, m * 4, none⟩ = some (.int .i64 x.s) ∧ Below w8.heap.size w8 wn := by assumption
                have HB25 := Lib.hid hS25.2
                clear hS25
                go_wp2_with fail
                go_loopw [13, 14] (fun t i wz => ∃ n : Nat, n ≤ ys.length ∧ i = .int .i64 n ∧ Hid (t = .bool (decide (x.s < A'.first) || there x (ys.take n))) ∧ Hid (Below w8.heap.size w8 wz)) (fun _ i _ => ys.length - (intOf i).toNat)
                case atStart => exact ⟨0, Nat.zero_le _, rfl, (by simp [Hid, there] : Hid (Value.bool (decide (x.s < A'.first)) = .bool (decide (x.s < A'.first) || there x (ys.take 0)))), HB25⟩
                case round =>
                  obtain ⟨wo3, rfl⟩ : ∃ wo3 : World, wo3 = wr := ⟨_, rfl⟩
                  obtain ⟨n, hn, rfl, hT, HBN⟩ := hrel
                  by_cases hnl : n < ys.length
                  · have HTS := Lib.hid (there_snoc x ys n hnl)
                    obtain ⟨gy, c7, e7, hgy, hcap7, y0, y1, y2, y3⟩ := (HRY.out.below HBN.out).cells hnl
                    simp only [Value.slice.injEq, true_and] at e7
                    obtain ⟨rfl, rfl⟩ := e7
                    obtain ⟨gx', c8, e8, hgx', -, x0, x1, x2, x3⟩ := HXC.out wo3 HBN.out
                    simp only [Value.slice.injEq, true_and, Option.some.injEq, Addr.mk.injEq, and_true] at e8
                    obtain ⟨rfl, rfl⟩ := e8
                    obtain ⟨y, hy⟩ : ∃ y, y = ys[n] := ⟨_, rfl⟩
                    rw [← hy] at y0 y1 y2 y3 HTS
                    obtain ⟨t, ht⟩ : ∃ t, t = (decide (x.s < A'.first) || there x (ys.take n)) := ⟨_, rfl⟩
                    have hT' := hT.out
                    rw [← ht] at hT'
                    subst hT'
                    have HTN : Hid ((decide (x.s < A'.first) || there x (ys.take (n + 1))) = (t || (y.s == x.s && !lessB y.r y.n x.r x.n))) := by
                      show _ = _
                      rw [HTS.out, ht, Bool.or_assoc]
                    clear hy ht hT HTS hcap7
                    cases t with
                    | true =>
                      go_wp2_with fail
                      go_quiet (fail)
                      go_wp2_with fail
                      go_roundw
                      case rel => exact ⟨n + 1, by omega, by go_num, (by show _ = _; rw [HTN.out]; simp), below_drewN HBN.out _⟩
                      case measure => simp [intOf]; omega
                    | false =>
                      by_cases hys : y.s = x.s
                      · have e1 : (y.s == x.s) = true := by simp [hys]
                        obtain ⟨q, hq⟩ : ∃ q, q = lessB y.r y.n x.r x.n := ⟨_, rfl⟩
                        have HQ := Lib.hid hq
                        have HYS2 := Lib.hid hys
                        clear hq hys
                        go_wp2_with fail
                        have hStab : ∀ Wx Wy : World, Below Wx.heap.size Wx Wy → (Wx.cell? ⟨gy, n * 4, none⟩ = some (.int .i64 y.s) ∧ Wx.cell? ⟨gy, n * 4 + 1, none⟩ = some (.int .i64 y.r) ∧ Wx.cell? ⟨gy, n * 4 + 2, none⟩ = some (.int .i64 y.n) ∧ Wx.cell? ⟨gx, m * 4, none⟩ = some (.int .i64 x.s) ∧ Wx.cell? ⟨gx, m * 4 + 1, none⟩ = some (.int .i64 x.r) ∧ Wx.cell? ⟨gx, m * 4 + 2, none⟩ = some (.int .i64 x.n) ∧ Below w8.heap.size w8 Wx) → (Wy.cell? ⟨gy, n * 4, none⟩ = some (.int .i64 y.s) ∧ Wy.cell? ⟨gy, n * 4 + 1, none⟩ = some (.int .i64 y.r) ∧ Wy.cell? ⟨gy, n * 4 + 2, none⟩ = some (.int .i64 y.n) ∧ Wy.cell? ⟨gx, m * 4, none⟩ = some (.int .i64 x.s) ∧ Wy.cell? ⟨gx, m * 4 + 1, none⟩ = some (.int .i64 x.r) ∧ Wy.cell? ⟨gx, m * 4 + 2, none⟩ = some (.int .i64 x.n) ∧ Below w8.heap.size w8 Wy) := by
                          intro Wx Wy kk hs
                          obtain ⟨s0, s1, s2, s3, s4, s5, s6⟩ := hs
                          exact ⟨cell_step s0 kk, cell_step s1 kk, cell_step s2 kk, cell_step s3 kk, cell_step s4 kk, cell_step s5 kk, below_step s6 kk⟩
                        have HhStab := Lib.hid hStab
                        clear hStab
                        go_region_held3 (fun w' => w'.cell? ⟨gy, n * 4, none⟩ = some (.int .i64 y.s) ∧ w'.cell? ⟨gy, n * 4 + 1, none⟩ = some (.int .i64 y.r) ∧ w'.cell? ⟨gy, n * 4 + 2, none⟩ = some (.int .i64 y.n) ∧ w'.cell? ⟨gx, m * 4, none⟩ = some (.int .i64 x.s) ∧ w'.cell? ⟨gx, m * 4 + 1, none⟩ = some (.int .i64 x.r) ∧ w'.cell? ⟨gx, m * 4 + 2, none⟩ = some (.int .i64 x.n) ∧ Below w8.heap.size w8 w') (first | (exact ⟨y0, y1, y2, x0, x1, x2, below_drewN HBN.out 1⟩) | (refine HhStab.out _ _ hbn ?_; assumption)) (first | (go_at_call 24; refine ((lessL _ _ _ _ _)).mono ?_; rw [← HQ.out]; rintro e wn ⟨rfl, hbn⟩))
                        have hS29 : wn.cell? ⟨gy, n * 4, none⟩ = some (.int .i64 y.s) ∧ wn.cell? ⟨gy, n * 4 + 1, none⟩ = some (.int .i64 y.r) ∧ wn.cell? ⟨gy, n * 4 + 2, none⟩ = some (.int .i64 y.n) ∧ wn.cell? ⟨gx, m * 4, none⟩ = some (.int .i64 x.s) ∧ wn.cell? ⟨gx, m * 4 + 1, none⟩ = some (.int .i64 x.r) ∧ wn.cell? ⟨gx, m * 4 + 2, none⟩ = some (.int .i64 x.n) ∧ Below w8.heap.size w8 wn := by assumption
                        have HB29 := Lib.hid hS29.2.2.2.2.2.2
                        clear hS29
                        go_wp2_with fail
                        go_roundw
                        case rel => exact ⟨n + 1, by omega, by go_num, (by show _ = _; rw [HTN.out, ← HQ.out, HYS2.out]; simp), HB29⟩
                        case measure => simp [intOf]; omega
                      · have e1 : (y.s == x.s) = false := by simp [hys]
                        clear hys
                        have HE1 := Lib.hid e1
                        go_wp2_with fail
                        go_quiet (fail)
                        go_wp2_with fail
                        go_roundw
                        case rel => exact ⟨n + 1, by omega, by go_num, (by show _ = _; rw [HTN.out, HE1.out]; simp), below_drewN HBN.out _⟩
                        case measure => simp [intOf]; omega
                  · obtain rfl : n = ys.length := by omega
                    have hyes : (decide (x.s < A'.first) || there x (ys.take ys.length)) = true := by
                      rw [List.take_length]
                      exact there_yes (by rw [HYV.out]; exact HPL.out)
                    have hT' := hT.out
                    rw [hyes] at hT'
                    subst hT'
                    clear hyes hT
                    go_wp2_with fail
                    go_roundw
                    case rel => exact ⟨m + 1, by omega, by go_num, HBN⟩
                    case measure => simp [intOf]; omega
              · obtain rfl : m = xs.length := by omega
                have HBW := Lib.hid (below_step HBE8.out.below HBZ.out)
                have HL8 := Lib.hid (HREL.out _ (HBE8.out.acc.below HBZ.out))
                go_wp2_with fail
                go_roundw
                case rel => exact ⟨k + 1, by omega, by go_num, HL8, HBW⟩
                case measure => simp [intOf]; omega
    · obtain rfl : k = l.length := by omega
      go_wp2_with fail
      go_ret
      exact ⟨rfl, hB.out⟩

theorem lawWalk {H : Type} (enc : TypeId × Value → H) : LawWalk enc Try.prog 5 Try.f5 (fun _ => True) := by
  intro W base args ds p hval hA hsz _
  rw [Try.params5] at hA hval hsz
  obtain ⟨v0, vs0, d0, ds0, p0, q0, hargs, rfl, rfl, h0, r0⟩ := trodAll_cons hA
  obtain ⟨v1, vs1, d1, ds1, p1, q1, rfl, rfl, rfl, h1, r1⟩ := trodAll_cons r0
  obtain ⟨rfl, rfl, rfl⟩ := trodAll_nil r1
  obtain rfl : args = #[v0, v1] := by cases args; simp_all
  obtain ⟨a0, l0, cap0, es0, sp0, rfl, hlc0, hcm0, hn0, hat0, hd0, hel0, hsp0, hgood0⟩ := open_slice_gen 5 ocells (fun o d => GoodO W o ∧ DataO o d) Try.underlying22 (by kernel_rfl) (by omega) (fun n cs y _ h => elem_op n cs y h) (hval 0 22 v0 rfl rfl) h0
  obtain ⟨a1, l1, cap1, es1, sp1, rfl, hlc1, hcm1, hn1, hat1, hd1, hel1, hsp1, hgood1⟩ := open_slice_gen 5 ocells (fun o d => GoodO W o ∧ DataO o d) Try.underlying22 (by kernel_rfl) (by omega) (fun n cs y _ h => elem_op n cs y h) (hval 1 22 v1 rfl rfl) h1
  exact keeps_ok W a0 l0 cap0 (by unfold maxLen at hcm0; omega) hat0 (fun k hk => (hgood0 k hk (by omega)).1) a1 l1 cap1 (by unfold maxLen at hcm1; omega) hat1 (fun k hk => (hgood1 k hk (by omega)).1)

theorem own : ownKnob Try.prog.godebug = none := by kernel_rfl
theorem laidOut : laidOutB Try.prog = true := by kernel_rfl

set_option maxRecDepth 100000 in
theorem lifted (os : Os) (started : os.Started) (H : Type) (enc : TypeId × Value → H) :
    ReturnsInHanded {} Try.checked os 5 .any (Rows.acceptKeepsSpec.pre6 enc Try.prog Try.f5 Rows.acceptKeepsRow.domain false) (Rows.acceptKeepsSpec.post enc Try.prog Try.f5 false true false false) := by
  refine returnsInHanded_of_change_sized (C := Try.checked) own started (by kernel_rfl) Try.func5
    (ChangeSpec.witness6 (enc := enc) (C := Try.checked) false ⟨#[], #[.slice none 0 0, .slice none 0 0], []⟩ 8 (by kernel_rfl) (by kernel_rfl) (by kernel_rfl) (by kernel_rfl)) ?_
  intro W base args ds gs before hval hW hcnd hsz _
  exact law_post (C := Try.checked) laidOut (fun ds h => by match ds, h with | [_, _], _ => rfl) 4 rfl Try.underlying4 rfl (by kernel_rfl) hval hW hsz trivial (lawWalk enc)

theorem proved : Rows.AcceptKeepsSaid :=
  OpenClaim.holds_of_wide 5 Try.f5 rfl rfl rfl rfl rfl rfl rfl ⟨rfl, rfl, rfl, rfl, rfl⟩ rfl rfl rfl rfl rfl (by kernel_rfl) Try.func5 (by kernel_rfl)
    (of_decide_eq_true (by kernel_rfl)) (by unfold Func.isWrapper; first | (rw [if_pos (by decide +kernel)]; kernel_rfl) | (rw [if_neg (by decide +kernel)]; exact ⟨rfl, rfl⟩))
    (fun os started H enc _ => lifted os started H enc)
#print axioms proved
end Go.Proofs.Ytafjmedjaepimaa.acceptKeeps
