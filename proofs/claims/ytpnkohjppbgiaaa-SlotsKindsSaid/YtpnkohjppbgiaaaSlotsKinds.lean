/-
  The statement SlotsKinds: a log of one kind of things goes as one of any other (printed by wip/mkkinds.py).
-/
import Derived.Test.YtpnkohjppbgiaaaSlotTwin
import Derived.Test.YtpnkohjppbgiaaaSlotR
import Derived.Test.YtpnkohjppbgiaaaSlotAw
import Derived.Test.YtpnkohjppbgiaaaChecked
import Derived.Test.YtpnkohjppbgiaaaRows
import Derived.Deep.RegionHeld3
import Derived.Deep.CutRange
namespace Go.Proofs.Ytpnkohjppbgiaaa.slotsKinds
open Go.ChangeShapes Go.WideShapes Go.ChangeAt Go.RowKit Go.Joins
open Go.Proofs.Ytpnkohjppbgiaaa.kit Go.Proofs.Ytpnkohjppbgiaaa.slottwin Go.Proofs.Ytpnkohjppbgiaaa.slotaw
open Go.Proofs.Ytpnkohjppbgiaaa.slotr (OpV OpV.ok ocells elem_op row_op i64_wf)
set_option linter.unusedVariables false
set_option linter.unusedSimpArgs false
set_option maxHeartbeats 6000000
set_option maxRecDepth 100000

theorem str_ne (x : ByteArray) (w : World) : (binOp .neq 9 (.string x) (.string x)).run Try.prog w = .ok (.bool false) w := by go_simp
theorem pair_ne (x : ByteArray) (n : Int) (w : World) : (binOp .neq 36 (.agg #[.string x, .int .i64 n]) (.agg #[.string x, .int .i64 n])).run Try.prog w = .ok (.bool false) w := by go_simp
theorem kinds_ok (w : World) (f0 m0 : Int) (a : Option Addr) (l : List OpV) (cap : Nat) (hl : l.length ≤ 9223372036854775807) (hat : RowsAt w a 3 (l.map ocells)) (hok : ∀ k (hk : k < l.length), (l[k]).ok) :
    Calls Try.prog 4 #[.int .i64 f0, .int .i64 m0, .slice a l.length cap] w fun e w' => e = .returned (.bool true) ∧ Below w.heap.size w w' := by
  have hN := Lib.hid (logp.new_ok w f0 m0)
  have hRN := Lib.hid (fun W => logb.new_ok W f0 m0)
  obtain ⟨f, hf⟩ : ∃ f, f = min (max f0 1) 1099511627776 := ⟨_, rfl⟩
  obtain ⟨m, hm⟩ : ∃ m, m = min (max m0 1) 1024 := ⟨_, rfl⟩
  have hF0 : logp.Fit f m [] := ⟨by omega, by omega, by omega, by omega, by simp; omega⟩
  rw [← hf, ← hm] at hN hRN
  have HR := Lib.hid (fun (wr : World) (hb : Below w.heap.size w wr) k hk => row_op (hat.below hb) k hk)
  have HOK := Lib.hid hok
  have HF0 := Lib.hid hF0
  clear hok hF0 hat hf hm
  obtain ⟨ba, hba⟩ : ∃ b, b = w.heap.size := ⟨_, rfl⟩
  rw [← hba] at hN
  have HBA := Lib.hid hba
  clear hba
  go_enter Try.func4, Try.ntmps4
  go_wp2_with fail
  refine hN.out.mono ?_; rintro e w1 ⟨rfl, hL1, hb1⟩
  rw [HBA.out] at hb1
  have HL1 := Lib.hid hL1
  have HB1 := Lib.hid hb1
  clear hL1 hb1 hN
  go_wp2_with fail
  refine (hRN.out w1).mono ?_; rintro e w2 ⟨rfl, hr2, hb2⟩
  obtain ⟨bb, hbb⟩ : ∃ b, b = w1.heap.size := ⟨_, rfl⟩
  rw [← hbb] at hr2 ⊢
  have HL2 := Lib.hid (HL1.out.below hb2)
  have HR2 := Lib.hid hr2
  have HB2 := Lib.hid (below_step HB1.out hb2)
  have hlr2 : w.heap.size ≤ bb := by rw [hbb]; exact HB1.out.size
  have HBB := Lib.hid hbb
  clear hr2 hb2 hRN hbb
  go_wp2_with fail
  refine (awake_ok w2).mono ?_; rintro e w3 ⟨rfl, hb3⟩
  have HL3 := Lib.hid (HL2.out.below hb3)
  have HR3 := Lib.hid (HR2.out.below hb3)
  have HB3 := Lib.hid (below_step HB2.out hb3)
  clear hb3
  go_wp2_with fail
  go_loopw [9] (fun i wr => ∃ (k : Nat) (g : Int) (A : LA) (B : LB), k ≤ l.length ∧ i = .int .i64 k ∧ Hid (logp.LogAt wr ba ba g m A) ∧ Hid (logb.LogAt wr bb bb g m B) ∧ Hid (logp.Fit g m A) ∧ Hid (slottwin.Twin wr A B) ∧ Hid (Below w.heap.size w wr)) (fun i _ => l.length - (intOf i).toNat)
  case atStart => exact ⟨0, f, [], [], Nat.zero_le _, rfl, HL3, HR3, HF0, twin_nil _, HB3⟩
  case round =>
    obtain ⟨k, g, A, B, hk, rfl, hL, hRf, hF, hTw, hB⟩ := hrel
    by_cases hlt : k < l.length
    · obtain ⟨rg, off, rfl, hgz, r0, r1, r2⟩ := HR.out wr hB.out k hlt
      obtain ⟨o, ho⟩ : ∃ o, o = l[k] := ⟨_, rfl⟩
      have hoo : o.ok := ho ▸ HOK.out k hlt
      rw [← ho] at r0 r1 r2
      clear ho
      obtain ⟨hi1, hi2⟩ := hoo
      have hw : IntKind.i64.wrap ((k : Int) + 1) = ((k + 1 : Nat) : Int) := by rw [IntWalk.i64_in _ (by omega)]; rfl
      obtain ⟨wb, hwb⟩ : ∃ wb, wb = wr.alloc (.cells #[.int .i64 o.kind, .int .i64 o.i, .string o.v] 41) := ⟨_, rfl⟩
      have hbb : Below wr.heap.size wr wb := by rw [hwb]; exact below_new1 _ _
      have hbox : wb.heap[wr.heap.size]? = some (.cells #[.int .i64 o.kind, .int .i64 o.i, .string o.v] 41 (0, 0)) := by rw [hwb]; exact hp_alloc_new _ _
      have HLb := Lib.hid (hL.out.below hbb)
      have HRb := Lib.hid (hRf.out.below hbb)
      have HTb := Lib.hid (hTw.out.to fun sl s h => h.below hbb)
      have HBb := Lib.hid (below_step hB.out hbb)
      have hszb := HBb.out.size
      have HX := Lib.hid hbox
      clear hbb
      by_cases hk2 : o.kind = 2
      · have HP : Hid (∀ W, Below wb.heap.size wb W → Calls Try.prog 19 #[.pointer (some ⟨ba, 0, none⟩), .int .i64 o.i] W fun e w' => e = .returned (.int .i64 (logp.cutE g A o.i)) ∧ Hid (logp.LogAt w' ba ba (logp.cutF g o.i) m (logp.cutC g A o.i) ∧ logb.LogAt w' bb bb g m B ∧ slottwin.Twin w' A B ∧ Below w.heap.size w w') ∧ w'.heap[wr.heap.size]? = some (.cells #[.int .i64 o.kind, .int .i64 o.i, .string o.v] 41 (0, 0))) := by
          intro W hW
          refine (logp.cut_ty W _ _ _ _ _ o.i (HLb.out.below hW) hF.out (by have := hW.size; have := HBA.out; omega)).mono ?_
          rintro e w' ⟨h1, h2, h3, h4⟩
          exact ⟨h1, ⟨h2, (HRb.out.below hW).keepTy h4 (by decide) (by decide) (by decide) (by decide), (HTb.out.to fun sl s h => h.below hW).to fun sl s h => h.keepA h4, (below_step HBb.out hW).trans (by rw [HBA.out] at h3; exact h3)⟩, h4 _ _ _ _ (hp_step HX.out hW) (by decide) (by decide)⟩
        have HRP : Hid (∀ W, Hid (logp.LogAt W ba ba (logp.cutF g o.i) m (logp.cutC g A o.i) ∧ logb.LogAt W bb bb g m B ∧ slottwin.Twin W A B ∧ Below w.heap.size w W) → W.heap[wr.heap.size]? = some (.cells #[.int .i64 o.kind, .int .i64 o.i, .string o.v] 41 (0, 0)) → Calls Try.prog 20 #[.pointer (some ⟨bb, 0, none⟩), .int .i64 o.i] W fun e w' => e = .returned (.int .i64 (logp.cutE g A o.i)) ∧ Hid (logp.LogAt w' ba ba (logp.cutF g o.i) m (logp.cutC g A o.i) ∧ logb.LogAt w' bb bb (logp.cutF g o.i) m (logb.cutC g B o.i) ∧ slottwin.Twin w' (logp.cutC g A o.i) (logb.cutC g B o.i) ∧ Below w.heap.size w w') ∧ w'.heap[wr.heap.size]? = some (.cells #[.int .i64 o.kind, .int .i64 o.i, .string o.v] 41 (0, 0))) := by
          intro W hW hbx
          obtain ⟨h1, h2, h3, h4⟩ := hW.out
          refine (logb.cut_ty W bb bb g m B o.i h2 (fit_same hF.out h3) (by obtain ⟨_, _, _, hx, _⟩ := h2; exact Nat.le_of_lt (blk3 hx).2.2.2.2.2.2)).mono ?_
          rintro e w' ⟨q1, q2, q3, q4⟩
          rw [← twin_cutE h3] at q1
          exact ⟨q1, ⟨h1.keepTy q4 (by decide) (by decide) (by decide) (by decide), q2, twin_cut (h3.to fun sl s h => h.keepB q4) g o.i, h4.trans (Below.mono q3 hlr2)⟩, q4 _ _ _ _ hbx (by decide) (by decide)⟩
        obtain ⟨q0, q1, q2, qf0, qf1, qf2, qz⟩ := blk3 hbox
        rw [hk2] at r0 q0
        rw [hk2] at hwb
        clear hbox qf0 qf1 qf2 hk2
        go_wp2_with fail
        rw [← hwb]
        clear hwb
        go_region_held3 (fun w' => w'.cell? ⟨wr.heap.size, 1, none⟩ = some (.int .i64 o.i) ∧ w'.cell? ⟨wr.heap.size, 2, none⟩ = some (.string o.v)) (first | (exact ⟨q1, q2⟩) | (exact ⟨d1, d2⟩) | (exact ⟨e1, e2⟩)) (first | (go_at_call 19; refine (HP.out _ (below_drewN (Below.refl _ _) 1)).mono ?_; rintro e w4 ⟨rfl, hS4, hbx4⟩; have d1 := (blk3 hbx4).2.1; have d2 := (blk3 hbx4).2.2.1; have HBX4 := Lib.hid hbx4; clear hbx4) | (go_at_call 20; refine (HRP.out _ hS4 HBX4.out).mono ?_; rintro e w5 ⟨rfl, hS5, hbx5⟩; have e1 := (blk3 hbx5).2.1; have e2 := (blk3 hbx5).2.2.1; have HBX5 := Lib.hid hbx5; clear hbx5))
        all_goals
          have HXW := HBX5
          have XW := Lib.hid (hS5.out.1)
          have YW := Lib.hid (hS5.out.2.1)
          have TW := Lib.hid (hS5.out.2.2.1)
          have FW := Lib.hid (logp.cut_fit hF.out o.i)
          have HBW := Lib.hid (hS5.out.2.2.2)
          have FBW := Lib.hid (fit_same FW.out TW.out)
          obtain ⟨⟨⟨xs, xn⟩, y⟩, hxy⟩ : ∃ p, p = logp.look (logp.cutF g o.i) (logp.cutC g A o.i) o.i := ⟨_, rfl⟩
          obtain ⟨⟨⟨sa, sn, sc⟩, y2⟩, hxy2⟩ : ∃ p, p = logb.look (logp.cutF g o.i) (logb.cutC g B o.i) o.i := ⟨_, rfl⟩
          have htl := twin_look TW.out (logp.cutF g o.i) o.i
          rw [← hxy, ← hxy2] at htl
          obtain ⟨hyy, hbi⟩ := htl
          dsimp only at hyy hbi
          subst hyy
          have GA := logp.get_ok w5 _ _ _ _ _ o.i XW.out FW.out hi1 hi2
          rw [← hxy] at GA
          dsimp only at GA
          have GA' := Lib.hid GA
          have BI := Lib.hid hbi
          have GB : Hid (∀ W', Below w5.heap.size w5 W' → Calls Try.prog 24 #[.pointer (some ⟨bb, 0, none⟩), .int .i64 o.i] W' fun e w' => e = .returned (.tuple #[.slice sa sn sc, .bool y]) ∧ Below W'.heap.size W' w') := by
            intro W' hW
            have h := logb.get_ok W' _ _ _ _ _ o.i (YW.out.below hW) FBW.out hi1 hi2
            rw [← hxy2] at h
            exact h
          have RA : Hid (∀ W', Below w5.heap.size w5 W' → (Calls Try.prog 25 #[.pointer (some ⟨ba, 0, none⟩)] W' fun e w' => e = .returned (.int .i64 (logp.cutF g o.i)) ∧ Below W'.heap.size W' w') ∧ (Calls Try.prog 27 #[.pointer (some ⟨ba, 0, none⟩)] W' fun e w' => e = .returned (.int .i64 ((logp.cutF g o.i) + logp.nextN (logp.cutC g A o.i))) ∧ Below W'.heap.size W' w') ∧ (Calls Try.prog 29 #[.pointer (some ⟨ba, 0, none⟩)] W' fun e w' => e = .returned (.int .i64 ((logp.cutF g o.i) + ((logp.cutC g A o.i)).length)) ∧ Below W'.heap.size W' w') ∧ (Calls Try.prog 31 #[.pointer (some ⟨ba, 0, none⟩)] W' fun e w' => e = .returned (.int .i64 ((logp.allF (logp.cutF g o.i) (logp.cutC g A o.i)).length : Nat)) ∧ Below W'.heap.size W' w')) := fun W' hW =>
            ⟨(logp.first_ok W' _ _ _ _ _ (XW.out.below hW)).mono fun e w' ⟨h1, h2⟩ => ⟨h1, h2 ▸ Below.refl _ _⟩, logp.next_ok W' _ _ _ _ _ (XW.out.below hW) FW.out, logp.top_ok W' _ _ _ _ _ (XW.out.below hW) FW.out, logp.len_ok W' _ _ _ _ _ (XW.out.below hW) FW.out⟩
          have RB : Hid (∀ W', Below w5.heap.size w5 W' → (Calls Try.prog 26 #[.pointer (some ⟨bb, 0, none⟩)] W' fun e w' => e = .returned (.int .i64 (logp.cutF g o.i)) ∧ Below W'.heap.size W' w') ∧ (Calls Try.prog 28 #[.pointer (some ⟨bb, 0, none⟩)] W' fun e w' => e = .returned (.int .i64 ((logp.cutF g o.i) + logp.nextN (logp.cutC g A o.i))) ∧ Below W'.heap.size W' w') ∧ (Calls Try.prog 30 #[.pointer (some ⟨bb, 0, none⟩)] W' fun e w' => e = .returned (.int .i64 ((logp.cutF g o.i) + ((logp.cutC g A o.i)).length)) ∧ Below W'.heap.size W' w') ∧ (Calls Try.prog 32 #[.pointer (some ⟨bb, 0, none⟩)] W' fun e w' => e = .returned (.int .i64 ((logp.allF (logp.cutF g o.i) (logp.cutC g A o.i)).length : Nat)) ∧ Below W'.heap.size W' w')) := fun W' hW => by
            refine ⟨(logb.first_ok W' _ _ _ _ _ (YW.out.below hW)).mono fun e w' ⟨h1, h2⟩ => ⟨h1, h2 ▸ Below.refl _ _⟩, ?_, ?_, ?_⟩
            · rw [twin_next TW.out]; exact logb.next_ok W' _ _ _ _ _ (YW.out.below hW) FBW.out
            · rw [TW.out.1]; exact logb.top_ok W' _ _ _ _ _ (YW.out.below hW) FBW.out
            · rw [twin_len TW.out (logp.cutF g o.i)]; exact logb.len_ok W' _ _ _ _ _ (YW.out.below hW) FBW.out
          obtain ⟨nq, hnq⟩ : ∃ n : Nat, n = logp.nextN (logp.cutC g A o.i) := ⟨_, rfl⟩
          obtain ⟨lq, hlq⟩ : ∃ n : Nat, n = ((logp.cutC g A o.i)).length := ⟨_, rfl⟩
          obtain ⟨cq, hcq⟩ : ∃ n : Nat, n = (logp.allF (logp.cutF g o.i) (logp.cutC g A o.i)).length := ⟨_, rfl⟩
          rw [← hnq, ← hlq, ← hcq] at RA RB
          obtain ⟨gq, hgq⟩ : ∃ n : Int, n = (logp.cutF g o.i) := ⟨_, rfl⟩
          rw [← hgq] at RA RB
          have t1 := (blk3 HXW.out).2.1
          have tz := (blk3 HXW.out).2.2.2.2.2.2
          clear hxy hxy2 GA hbi hnq hlq hcq hgq
          go_wp2_with fail
          refine GA'.out.mono ?_; rintro e u1 ⟨rfl, hv1⟩
          have U1 := Lib.hid hv1
          have t1' := cell_step t1 hv1
          have tz' := cell_lt t1'
          clear t1 tz hv1
          go_wp2_with fail
          obtain ⟨u2, hu2⟩ : ∃ u2 : World, u2 = u1.alloc (.cells #[.string xs, .int .i64 xn] 36) := ⟨_, rfl⟩
          rw [← hu2]
          have hV2 : Below w5.heap.size w5 u2 := by rw [hu2]; exact below_step U1.out (below_new1 _ _)
          have hp2 : u2.heap[u1.heap.size]? = some (.cells #[.string xs, .int .i64 xn] 36 (0, 0)) := by rw [hu2]; exact hp_alloc_new _ _
          have U2 := Lib.hid hV2
          have P2 := Lib.hid hp2
          clear hu2 hV2 hp2
          refine (GB.out _ U2.out).mono ?_; rintro e u3 ⟨rfl, hv3⟩
          have hp3 := hp_step P2.out hv3
          obtain ⟨p0, p1, _, _, pz⟩ := blk2 hp3
          have U3 := Lib.hid (below_step U2.out hv3)
          clear hv3 hp3 t1' tz'
          have hst := str_ne xs
          cases y with
          | true =>
            have hcv := conv_back ((BI.out rfl).below U3.out)
            dsimp only at hcv
            go_wp2_with fail
            refine (RA.out _ U3.out).1.mono ?_; rintro e u4 ⟨rfl, hv⟩
            have U4 := Lib.hid (below_step U3.out hv)
            clear hv
            go_wp2_with fail
            refine (RB.out _ U4.out).1.mono ?_; rintro e u5 ⟨rfl, hv⟩
            have U5 := Lib.hid (below_step U4.out hv)
            clear hv
            go_wp2_with fail
            refine (RA.out _ U5.out).2.1.mono ?_; rintro e u6 ⟨rfl, hv⟩
            have U6 := Lib.hid (below_step U5.out hv)
            clear hv
            go_wp2_with fail
            refine (RB.out _ U6.out).2.1.mono ?_; rintro e u7 ⟨rfl, hv⟩
            have U7 := Lib.hid (below_step U6.out hv)
            clear hv
            go_wp2_with fail
            refine (RA.out _ U7.out).2.2.1.mono ?_; rintro e u8 ⟨rfl, hv⟩
            have U8 := Lib.hid (below_step U7.out hv)
            clear hv
            go_wp2_with fail
            refine (RB.out _ U8.out).2.2.1.mono ?_; rintro e u9 ⟨rfl, hv⟩
            have U9 := Lib.hid (below_step U8.out hv)
            clear hv
            go_wp2_with fail
            refine (RA.out _ U9.out).2.2.2.mono ?_; rintro e u10 ⟨rfl, hv⟩
            have U10 := Lib.hid (below_step U9.out hv)
            clear hv
            go_wp2_with fail
            refine (RB.out _ U10.out).2.2.2.mono ?_; rintro e u11 ⟨rfl, hv⟩
            have U11 := Lib.hid (below_step U10.out hv)
            clear hv
            go_wp2_with fail
            go_roundw
            case rel => exact ⟨k + 1, _, _, _, by omega, rfl, XW.out.below U11.out, YW.out.below U11.out, FW, (TW.out.to fun sl s h => h.below U11.out), below_step HBW.out U11.out⟩
            case measure => simp [intOf]; omega
          | false =>
            go_wp2_with fail
            refine (RA.out _ U3.out).1.mono ?_; rintro e u4 ⟨rfl, hv⟩
            have U4 := Lib.hid (below_step U3.out hv)
            clear hv
            go_wp2_with fail
            refine (RB.out _ U4.out).1.mono ?_; rintro e u5 ⟨rfl, hv⟩
            have U5 := Lib.hid (below_step U4.out hv)
            clear hv
            go_wp2_with fail
            refine (RA.out _ U5.out).2.1.mono ?_; rintro e u6 ⟨rfl, hv⟩
            have U6 := Lib.hid (below_step U5.out hv)
            clear hv
            go_wp2_with fail
            refine (RB.out _ U6.out).2.1.mono ?_; rintro e u7 ⟨rfl, hv⟩
            have U7 := Lib.hid (below_step U6.out hv)
            clear hv
            go_wp2_with fail
            refine (RA.out _ U7.out).2.2.1.mono ?_; rintro e u8 ⟨rfl, hv⟩
            have U8 := Lib.hid (below_step U7.out hv)
            clear hv
            go_wp2_with fail
            refine (RB.out _ U8.out).2.2.1.mono ?_; rintro e u9 ⟨rfl, hv⟩
            have U9 := Lib.hid (below_step U8.out hv)
            clear hv
            go_wp2_with fail
            refine (RA.out _ U9.out).2.2.2.mono ?_; rintro e u10 ⟨rfl, hv⟩
            have U10 := Lib.hid (below_step U9.out hv)
            clear hv
            go_wp2_with fail
            refine (RB.out _ U10.out).2.2.2.mono ?_; rintro e u11 ⟨rfl, hv⟩
            have U11 := Lib.hid (below_step U10.out hv)
            clear hv
            go_wp2_with fail
            go_roundw
            case rel => exact ⟨k + 1, _, _, _, by omega, rfl, XW.out.below U11.out, YW.out.below U11.out, FW, (TW.out.to fun sl s h => h.below U11.out), below_step HBW.out U11.out⟩
            case measure => simp [intOf]; omega
      · by_cases hk1 : o.kind = 1
        · obtain ⟨q0, q1, q2, qf0, qf1, qf2, qz⟩ := blk3 hbox
          rw [hk1] at r0 q0
          rw [hk1] at hwb
          clear hbox qf0 qf1 qf2 hk1 hk2
          have HXW := HX
          have XW := Lib.hid (HLb.out)
          have YW := Lib.hid (HRb.out)
          have TW := Lib.hid (HTb.out)
          have FW := Lib.hid (hF.out)
          have HBW := Lib.hid (HBb.out)
          have FBW := Lib.hid (fit_same FW.out TW.out)
          go_upto_region 21 with fail
          rw [← hwb]
          clear hwb q0 q1 q2 qz r0 r1 r2
          obtain ⟨⟨⟨xs, xn⟩, y⟩, hxy⟩ : ∃ p, p = logp.look g A o.i := ⟨_, rfl⟩
          obtain ⟨⟨⟨sa, sn, sc⟩, y2⟩, hxy2⟩ : ∃ p, p = logb.look g B o.i := ⟨_, rfl⟩
          have htl := twin_look TW.out g o.i
          rw [← hxy, ← hxy2] at htl
          obtain ⟨hyy, hbi⟩ := htl
          dsimp only at hyy hbi
          subst hyy
          have GA := logp.get_ok wb _ _ _ _ _ o.i XW.out FW.out hi1 hi2
          rw [← hxy] at GA
          dsimp only at GA
          have GA' := Lib.hid GA
          have BI := Lib.hid hbi
          have GB : Hid (∀ W', Below wb.heap.size wb W' → Calls Try.prog 24 #[.pointer (some ⟨bb, 0, none⟩), .int .i64 o.i] W' fun e w' => e = .returned (.tuple #[.slice sa sn sc, .bool y]) ∧ Below W'.heap.size W' w') := by
            intro W' hW
            have h := logb.get_ok W' _ _ _ _ _ o.i (YW.out.below hW) FBW.out hi1 hi2
            rw [← hxy2] at h
            exact h
          have RA : Hid (∀ W', Below wb.heap.size wb W' → (Calls Try.prog 25 #[.pointer (some ⟨ba, 0, none⟩)] W' fun e w' => e = .returned (.int .i64 g) ∧ Below W'.heap.size W' w') ∧ (Calls Try.prog 27 #[.pointer (some ⟨ba, 0, none⟩)] W' fun e w' => e = .returned (.int .i64 (g + logp.nextN A)) ∧ Below W'.heap.size W' w') ∧ (Calls Try.prog 29 #[.pointer (some ⟨ba, 0, none⟩)] W' fun e w' => e = .returned (.int .i64 (g + (A).length)) ∧ Below W'.heap.size W' w') ∧ (Calls Try.prog 31 #[.pointer (some ⟨ba, 0, none⟩)] W' fun e w' => e = .returned (.int .i64 ((logp.allF g A).length : Nat)) ∧ Below W'.heap.size W' w')) := fun W' hW =>
            ⟨(logp.first_ok W' _ _ _ _ _ (XW.out.below hW)).mono fun e w' ⟨h1, h2⟩ => ⟨h1, h2 ▸ Below.refl _ _⟩, logp.next_ok W' _ _ _ _ _ (XW.out.below hW) FW.out, logp.top_ok W' _ _ _ _ _ (XW.out.below hW) FW.out, logp.len_ok W' _ _ _ _ _ (XW.out.below hW) FW.out⟩
          have RB : Hid (∀ W', Below wb.heap.size wb W' → (Calls Try.prog 26 #[.pointer (some ⟨bb, 0, none⟩)] W' fun e w' => e = .returned (.int .i64 g) ∧ Below W'.heap.size W' w') ∧ (Calls Try.prog 28 #[.pointer (some ⟨bb, 0, none⟩)] W' fun e w' => e = .returned (.int .i64 (g + logp.nextN A)) ∧ Below W'.heap.size W' w') ∧ (Calls Try.prog 30 #[.pointer (some ⟨bb, 0, none⟩)] W' fun e w' => e = .returned (.int .i64 (g + (A).length)) ∧ Below W'.heap.size W' w') ∧ (Calls Try.prog 32 #[.pointer (some ⟨bb, 0, none⟩)] W' fun e w' => e = .returned (.int .i64 ((logp.allF g A).length : Nat)) ∧ Below W'.heap.size W' w')) := fun W' hW => by
            refine ⟨(logb.first_ok W' _ _ _ _ _ (YW.out.below hW)).mono fun e w' ⟨h1, h2⟩ => ⟨h1, h2 ▸ Below.refl _ _⟩, ?_, ?_, ?_⟩
            · rw [twin_next TW.out]; exact logb.next_ok W' _ _ _ _ _ (YW.out.below hW) FBW.out
            · rw [TW.out.1]; exact logb.top_ok W' _ _ _ _ _ (YW.out.below hW) FBW.out
            · rw [twin_len TW.out g]; exact logb.len_ok W' _ _ _ _ _ (YW.out.below hW) FBW.out
          obtain ⟨nq, hnq⟩ : ∃ n : Nat, n = logp.nextN A := ⟨_, rfl⟩
          obtain ⟨lq, hlq⟩ : ∃ n : Nat, n = (A).length := ⟨_, rfl⟩
          obtain ⟨cq, hcq⟩ : ∃ n : Nat, n = (logp.allF g A).length := ⟨_, rfl⟩
          rw [← hnq, ← hlq, ← hcq] at RA RB
          obtain ⟨gq, hgq⟩ : ∃ n : Int, n = g := ⟨_, rfl⟩
          rw [← hgq] at RA RB
          have t1 := (blk3 HXW.out).2.1
          have tz := (blk3 HXW.out).2.2.2.2.2.2
          clear hxy hxy2 GA hbi hnq hlq hcq hgq
          go_wp2_with fail
          refine GA'.out.mono ?_; rintro e u1 ⟨rfl, hv1⟩
          have U1 := Lib.hid hv1
          have t1' := cell_step t1 hv1
          have tz' := cell_lt t1'
          clear t1 tz hv1
          go_wp2_with fail
          obtain ⟨u2, hu2⟩ : ∃ u2 : World, u2 = u1.alloc (.cells #[.string xs, .int .i64 xn] 36) := ⟨_, rfl⟩
          rw [← hu2]
          have hV2 : Below wb.heap.size wb u2 := by rw [hu2]; exact below_step U1.out (below_new1 _ _)
          have hp2 : u2.heap[u1.heap.size]? = some (.cells #[.string xs, .int .i64 xn] 36 (0, 0)) := by rw [hu2]; exact hp_alloc_new _ _
          have U2 := Lib.hid hV2
          have P2 := Lib.hid hp2
          clear hu2 hV2 hp2
          refine (GB.out _ U2.out).mono ?_; rintro e u3 ⟨rfl, hv3⟩
          have hp3 := hp_step P2.out hv3
          obtain ⟨p0, p1, _, _, pz⟩ := blk2 hp3
          have U3 := Lib.hid (below_step U2.out hv3)
          clear hv3 hp3 t1' tz'
          have hst := str_ne xs
          cases y with
          | true =>
            have hcv := conv_back ((BI.out rfl).below U3.out)
            dsimp only at hcv
            go_wp2_with fail
            refine (RA.out _ U3.out).1.mono ?_; rintro e u4 ⟨rfl, hv⟩
            have U4 := Lib.hid (below_step U3.out hv)
            clear hv
            go_wp2_with fail
            refine (RB.out _ U4.out).1.mono ?_; rintro e u5 ⟨rfl, hv⟩
            have U5 := Lib.hid (below_step U4.out hv)
            clear hv
            go_wp2_with fail
            refine (RA.out _ U5.out).2.1.mono ?_; rintro e u6 ⟨rfl, hv⟩
            have U6 := Lib.hid (below_step U5.out hv)
            clear hv
            go_wp2_with fail
            refine (RB.out _ U6.out).2.1.mono ?_; rintro e u7 ⟨rfl, hv⟩
            have U7 := Lib.hid (below_step U6.out hv)
            clear hv
            go_wp2_with fail
            refine (RA.out _ U7.out).2.2.1.mono ?_; rintro e u8 ⟨rfl, hv⟩
            have U8 := Lib.hid (below_step U7.out hv)
            clear hv
            go_wp2_with fail
            refine (RB.out _ U8.out).2.2.1.mono ?_; rintro e u9 ⟨rfl, hv⟩
            have U9 := Lib.hid (below_step U8.out hv)
            clear hv
            go_wp2_with fail
            refine (RA.out _ U9.out).2.2.2.mono ?_; rintro e u10 ⟨rfl, hv⟩
            have U10 := Lib.hid (below_step U9.out hv)
            clear hv
            go_wp2_with fail
            refine (RB.out _ U10.out).2.2.2.mono ?_; rintro e u11 ⟨rfl, hv⟩
            have U11 := Lib.hid (below_step U10.out hv)
            clear hv
            go_wp2_with fail
            go_roundw
            case rel => exact ⟨k + 1, _, _, _, by omega, rfl, XW.out.below U11.out, YW.out.below U11.out, FW, (TW.out.to fun sl s h => h.below U11.out), below_step HBW.out U11.out⟩
            case measure => simp [intOf]; omega
          | false =>
            go_wp2_with fail
            refine (RA.out _ U3.out).1.mono ?_; rintro e u4 ⟨rfl, hv⟩
            have U4 := Lib.hid (below_step U3.out hv)
            clear hv
            go_wp2_with fail
            refine (RB.out _ U4.out).1.mono ?_; rintro e u5 ⟨rfl, hv⟩
            have U5 := Lib.hid (below_step U4.out hv)
            clear hv
            go_wp2_with fail
            refine (RA.out _ U5.out).2.1.mono ?_; rintro e u6 ⟨rfl, hv⟩
            have U6 := Lib.hid (below_step U5.out hv)
            clear hv
            go_wp2_with fail
            refine (RB.out _ U6.out).2.1.mono ?_; rintro e u7 ⟨rfl, hv⟩
            have U7 := Lib.hid (below_step U6.out hv)
            clear hv
            go_wp2_with fail
            refine (RA.out _ U7.out).2.2.1.mono ?_; rintro e u8 ⟨rfl, hv⟩
            have U8 := Lib.hid (below_step U7.out hv)
            clear hv
            go_wp2_with fail
            refine (RB.out _ U8.out).2.2.1.mono ?_; rintro e u9 ⟨rfl, hv⟩
            have U9 := Lib.hid (below_step U8.out hv)
            clear hv
            go_wp2_with fail
            refine (RA.out _ U9.out).2.2.2.mono ?_; rintro e u10 ⟨rfl, hv⟩
            have U10 := Lib.hid (below_step U9.out hv)
            clear hv
            go_wp2_with fail
            refine (RB.out _ U10.out).2.2.2.mono ?_; rintro e u11 ⟨rfl, hv⟩
            have U11 := Lib.hid (below_step U10.out hv)
            clear hv
            go_wp2_with fail
            go_roundw
            case rel => exact ⟨k + 1, _, _, _, by omega, rfl, XW.out.below U11.out, YW.out.below U11.out, FW, (TW.out.to fun sl s h => h.below U11.out), below_step HBW.out U11.out⟩
            case measure => simp [intOf]; omega
        · obtain ⟨A', hA'⟩ : ∃ A', A' = logp.putC g m A o.i (o.v, (k : Int)) := ⟨_, rfl⟩
          obtain ⟨E, hE⟩ : ∃ E, E = logp.putE g m o.i := ⟨_, rfl⟩
          have HP : Hid (∀ W, Below wb.heap.size wb W → Calls Try.prog 21 #[.pointer (some ⟨ba, 0, none⟩), .int .i64 o.i, .agg #[.string o.v, .int .i64 k]] W fun e w' => e = .returned (.int .i64 E) ∧ Hid (logp.LogAt w' ba ba g m A' ∧ logb.LogAt w' bb bb g m B ∧ slottwin.Twin w' A B ∧ Below w.heap.size w w') ∧ w'.heap[wr.heap.size]? = some (.cells #[.int .i64 o.kind, .int .i64 o.i, .string o.v] 41 (0, 0)) ∧ Hid (∀ sl s, BytesIn W sl s → BytesIn w' sl s)) := by
            intro W hW
            rw [hE, hA']
            refine (logp.put_ty W _ _ _ _ _ o.i (o.v, (k : Int)) (HLb.out.below hW) hF.out (by have := hW.size; have := HBA.out; omega) hi1 hi2).mono ?_
            rintro e w' ⟨h1, h2, h3, h4⟩
            exact ⟨h1, ⟨h2, (HRb.out.below hW).keepTy h4 (by decide) (by decide) (by decide) (by decide), (HTb.out.to fun sl s h => h.below hW).to fun sl s h => h.keepA h4, (below_step HBb.out hW).trans (by rw [HBA.out] at h3; exact h3)⟩, h4 _ _ _ _ (hp_step HX.out hW) (by decide) (by decide), fun sl s h => h.keepA h4⟩
          have HRP : Hid (∀ W a n c, Hid (logp.LogAt W ba ba g m A' ∧ logb.LogAt W bb bb g m B ∧ slottwin.Twin W A B ∧ Below w.heap.size w W) → W.heap[wr.heap.size]? = some (.cells #[.int .i64 o.kind, .int .i64 o.i, .string o.v] 41 (0, 0)) → BytesIn W (a, n, c) o.v → Calls Try.prog 22 #[.pointer (some ⟨bb, 0, none⟩), .int .i64 o.i, .slice a n c] W fun e w' => e = .returned (.int .i64 E) ∧ Hid (∃ B', logp.LogAt w' ba ba g m A' ∧ logb.LogAt w' bb bb g m B' ∧ slottwin.Twin w' A' B' ∧ Below w.heap.size w w') ∧ w'.heap[wr.heap.size]? = some (.cells #[.int .i64 o.kind, .int .i64 o.i, .string o.v] 41 (0, 0))) := by
            intro W a n c hW hbx hby
            obtain ⟨h1, h2, h3, h4⟩ := hW.out
            rw [hE, hA', putE_same]
            rw [hA'] at h1
            refine (logb.put_ty W bb bb g m B o.i (a, n, c) h2 (fit_same hF.out h3) (by obtain ⟨_, _, _, hx, _⟩ := h2; exact Nat.le_of_lt (blk3 hx).2.2.2.2.2.2) hi1 hi2).mono ?_
            rintro e w' ⟨q1, q2, q3, q4⟩
            exact ⟨q1, ⟨_, h1.keepTy q4 (by decide) (by decide) (by decide) (by decide), q2, twin_put (h3.to fun sl s h => h.keepB q4) g m o.i o.v k (a, n, c) (hby.keepB q4), h4.trans (Below.mono q3 hlr2)⟩, q4 _ _ _ _ hbx (by decide) (by decide)⟩
          have HFA : Hid (logp.Fit g m A') := by rw [hA']; exact logp.put_fit hF.out o.i _
          have hrng : (E = 0 ∧ logp.look g A' o.i = ((o.v, (k : Int)), true)) ∨ (E == 0) = false := by
            by_cases h1 : o.i < g
            · right; rw [hE, logp.putE, if_pos h1]; rfl
            · by_cases h2 : m ≤ o.i - g
              · right; rw [hE, logp.putE, if_neg h1, if_pos h2]; rfl
              · left; exact ⟨by rw [hE, logp.putE, if_neg h1, if_neg h2], by rw [hA']; exact put_lookA g m A o.i _ (by omega) (by omega)⟩
          obtain ⟨q0, q1, q2, qf0, qf1, qf2, qz⟩ := blk3 hbox
          have b1 : (o.kind == 1) = false := by simpa using hk1
          have b2 : (o.kind == 2) = false := by simpa using hk2
          have hcn := fun W => conv_new W o.v
          clear hbox qf0 qf1 qf2 hk2 hk1 hA' hE
          have HRG := Lib.hid hrng
          clear hrng
          go_wp2_with fail
          rw [← hwb]
          clear hwb
          have g1 := cell_step (W := wb.drew) (show wb.drew.cell? ⟨wr.heap.size, 1, none⟩ = some (.int .i64 o.i) from q1) (conv_below wb.drew o.v)
          have g2 := cell_step (W := wb.drew) (show wb.drew.cell? ⟨wr.heap.size, 2, none⟩ = some (.string o.v) from q2) (conv_below wb.drew o.v)
          refine wp_region_held_drew (S := (fun w' => w'.cell? ⟨wr.heap.size, 1, none⟩ = some (.int .i64 o.i) ∧ w'.cell? ⟨wr.heap.size, 2, none⟩ = some (.string o.v))) (by kernel_rfl) ⟨q1, q2⟩ (fun hHeld => ?_)
          refine wpAnyH_take (i := 0) (v := ?_) rfl (by kernel_rfl) (by kernel_rfl) (by kernel_rfl) (fun _ _ _ h => h) (Or.inl ⟨by rfl, ?_⟩) (by assumption) ?_
          rotate_left
          · intro w hSw
            try dsimp only at hSw
            go_simp
            try with_reducible rfl
          try simp only [Act.put, List.setIfInBounds_toArray, List.set_cons_zero, List.set_cons_succ]
          refine wpAnyH_take (i := 1) (v := ?_) rfl (by kernel_rfl) (by kernel_rfl) (by kernel_rfl) (fun _ _ _ h => h) (Or.inl ⟨by rfl, ?_⟩) (by assumption) ?_
          rotate_left
          · intro w hSw
            try dsimp only at hSw
            go_simp
            try with_reducible rfl
          try simp only [Act.put, List.setIfInBounds_toArray, List.set_cons_zero, List.set_cons_succ]
          refine wpAnyH_take (i := 2) (v := ?_) rfl (by kernel_rfl) (by kernel_rfl) (by kernel_rfl) (fun _ _ _ h => h) (Or.inl ⟨by rfl, ?_⟩) (by assumption) ?_
          rotate_left
          · intro w hSw
            try dsimp only at hSw
            go_simp
            try with_reducible rfl
          try simp only [Act.put, List.setIfInBounds_toArray, List.set_cons_zero, List.set_cons_succ]
          refine wpAnyH_take (i := 3) (v := ?_) rfl (by kernel_rfl) (by kernel_rfl) (by kernel_rfl) (fun _ _ _ h => h) (Or.inl ⟨by rfl, ?_⟩) (by assumption) ?_
          rotate_left
          · intro w hSw
            try dsimp only at hSw
            go_simp
            try with_reducible rfl
          try simp only [Act.put, List.setIfInBounds_toArray, List.set_cons_zero, List.set_cons_succ]
          refine wpAnyH_take (i := 4) (v := ?_) rfl (by kernel_rfl) (by kernel_rfl) (by kernel_rfl) (fun _ _ _ h => h) (Or.inl ⟨by rfl, ?_⟩) (by assumption) ?_
          rotate_left
          · intro w hSw
            try dsimp only at hSw
            go_simp
            try with_reducible rfl
          try simp only [Act.put, List.setIfInBounds_toArray, List.set_cons_zero, List.set_cons_succ]
          refine wpAnyH_take (i := 5) (v := ?_) rfl (by kernel_rfl) (by kernel_rfl) (by kernel_rfl) (fun _ _ _ h => h) (Or.inl ⟨by rfl, ?_⟩) (by assumption) ?_
          rotate_left
          · intro w hSw
            try dsimp only at hSw
            go_simp
            try with_reducible rfl
          try simp only [Act.put, List.setIfInBounds_toArray, List.set_cons_zero, List.set_cons_succ]
          refine wpAnyH_take (i := 6) (v := ?_) rfl (by kernel_rfl) (by kernel_rfl) (by kernel_rfl) (fun _ _ _ h => h) (Or.inl ⟨by rfl, ?_⟩) (by assumption) ?_
          rotate_left
          · intro w hSw
            try dsimp only at hSw
            go_simp
            try with_reducible rfl
          try simp only [Act.put, List.setIfInBounds_toArray, List.set_cons_zero, List.set_cons_succ]
          refine wpAnyH_take (i := 8) (v := ?_) rfl (by kernel_rfl) (by kernel_rfl) (by kernel_rfl) (fun _ _ _ h => h) (Or.inl ⟨by rfl, ?_⟩) (by assumption) ?_
          rotate_left
          · intro w hSw
            try dsimp only at hSw
            go_simp
            try with_reducible rfl
          try simp only [Act.put, List.setIfInBounds_toArray, List.set_cons_zero, List.set_cons_succ]
          refine wpAnyH_take (i := 9) (v := ?_) rfl (by kernel_rfl) (by kernel_rfl) (by kernel_rfl) (fun _ _ _ h => h) (Or.inl ⟨by rfl, ?_⟩) (by assumption) ?_
          rotate_left
          · intro w hSw
            try dsimp only at hSw
            go_simp
            try with_reducible rfl
          try simp only [Act.put, List.setIfInBounds_toArray, List.set_cons_zero, List.set_cons_succ]
          refine wpAnyH_take (i := 10) (v := ?_) rfl (by kernel_rfl) (by kernel_rfl) (by kernel_rfl) (fun _ _ _ h => h) (Or.inl ⟨by rfl, ?_⟩) (by assumption) ?_
          rotate_left
          · intro w hSw
            try dsimp only at hSw
            go_simp
            try with_reducible rfl
          try simp only [Act.put, List.setIfInBounds_toArray, List.set_cons_zero, List.set_cons_succ]
          refine wpAnyH_take (i := 11) (v := ?_) rfl (by kernel_rfl) (by kernel_rfl) (by kernel_rfl) (fun _ _ _ h => h) (Or.inl ⟨by rfl, ?_⟩) (by assumption) ?_
          rotate_left
          · intro w hSw
            try dsimp only at hSw
            go_simp
            try with_reducible rfl
          try simp only [Act.put, List.setIfInBounds_toArray, List.set_cons_zero, List.set_cons_succ]
          refine wpAnyH_take (i := 12) (v := ?_) rfl (by kernel_rfl) (by kernel_rfl) (by kernel_rfl) (fun _ _ _ h => h) (Or.inl ⟨by rfl, ?_⟩) (by assumption) ?_
          rotate_left
          · intro w hSw
            try dsimp only at hSw
            go_simp
            try with_reducible rfl
          try simp only [Act.put, List.setIfInBounds_toArray, List.set_cons_zero, List.set_cons_succ]
          refine wpAnyH_ready (rs := [7, 13]) (by kernel_rfl) (by simp) ?_
          refine AllReadyH.cons rfl (fun K hK => ?_) ?_
          · go_simp
            go_at_call 21; refine (HP.out _ (by first | exact below_drewN (Below.refl _ _) 1 | exact below_step (below_drewN (Below.refl _ _) 1) (conv_below _ _))).mono ?_; rintro e w4 ⟨rfl, hS4, hbx4, hby4⟩; have d1 := (blk3 hbx4).2.1; have d2 := (blk3 hbx4).2.2.1; have HBX4 := Lib.hid hbx4; clear hbx4
            dsimp only
            refine hK.out _ _ ⟨d1, d2⟩ (fun hHeld => ?_)
            clear hK K
            try simp only [Act.put, List.setIfInBounds_toArray, List.set_cons_zero, List.set_cons_succ]
            refine wpAnyH_ready (rs := [13]) (by kernel_rfl) (by simp) ?_
            refine AllReadyH.cons rfl (fun K hK => ?_) ?_
            · go_simp
              refine hK.out _ _ ⟨cell_step d1 (conv_below _ _), cell_step d2 (conv_below _ _)⟩ (fun hHeld => ?_)
              clear hK K
              try simp only [Act.put, List.setIfInBounds_toArray, List.set_cons_zero, List.set_cons_succ]
              refine wpAnyH_ready (rs := [14]) (by kernel_rfl) (by simp) ?_
              refine AllReadyH.cons rfl (fun K hK => ?_) ?_
              · go_simp
                go_at_call 22; refine (HRP.out _ _ _ _ (by first | exact hS4 | exact ⟨hS4.out.1.below (conv_below _ _), hS4.out.2.1.below (conv_below _ _), (hS4.out.2.2.1.to fun sl s h => h.below (conv_below _ _)), below_step hS4.out.2.2.2 (conv_below _ _)⟩) (by first | exact HBX4.out | exact hp_step HBX4.out (conv_below _ _)) (by first | exact conv_bytes _ _ | exact hby4.out _ _ (conv_bytes _ _))).mono ?_; rintro e w5 ⟨rfl, hS5, hbx5⟩; have e1 := (blk3 hbx5).2.1; have e2 := (blk3 hbx5).2.2.1; have HBX5 := Lib.hid hbx5; clear hbx5
                dsimp only
                refine hK.out _ _ ⟨e1, e2⟩ (fun hHeld => ?_)
                clear hK K
                try simp only [Act.put, List.setIfInBounds_toArray, List.set_cons_zero, List.set_cons_succ]
                refine wpAnyH_take (i := 15) (v := ?_) rfl (by kernel_rfl) (by kernel_rfl) (by kernel_rfl) (fun _ _ _ h => h) (Or.inl ⟨by rfl, ?_⟩) (by assumption) ?_
                rotate_left
                · intro w hSw
                  try dsimp only at hSw
                  go_simp
                  try with_reducible rfl
                try simp only [Act.put, List.setIfInBounds_toArray, List.set_cons_zero, List.set_cons_succ]
                refine wpAnyH_take (i := 16) (v := ?_) rfl (by kernel_rfl) (by kernel_rfl) (by kernel_rfl) (fun _ _ _ h => h) (Or.inl ⟨by rfl, ?_⟩) (by assumption) ?_
                rotate_left
                · intro w hSw
                  try dsimp only at hSw
                  go_simp
                  try with_reducible rfl
                try simp only [Act.put, List.setIfInBounds_toArray, List.set_cons_zero, List.set_cons_succ]
                refine wpAnyH_done (by kernel_rfl) ?_ _
                obtain ⟨B', x1, x2, x3, x4⟩ := hS5.out
                have Y1 := Lib.hid x1
                have Y2 := Lib.hid x2
                have Y3 := Lib.hid x3
                have Y4 := Lib.hid x4
                clear x1 x2 x3 x4 hS5 hS4
                rcases HRG.out with ⟨rfl, hlk⟩ | hE0
                · have G5 := logp.get_ok w5 _ _ _ _ _ o.i Y1.out HFA.out hi1 hi2
                  rw [hlk] at G5
                  dsimp only at G5
                  have HG5 := Lib.hid G5
                  have hpn := pair_ne o.v k
                  clear G5 hlk
                  go_wp2_with fail
                  refine HG5.out.mono ?_; rintro e w6 ⟨rfl, hb6⟩
                  have hbx6 := hp_step HBX5.out hb6
                  have k2 := (blk3 hbx6).2.2.1
                  have k1 := (blk3 hbx6).2.1
                  have kz := (blk3 hbx6).2.2.2.2.2.2
                  have B56 := Lib.hid hb6
                  clear hb6
                  have HBX6 := Lib.hid hbx6
                  clear hbx6
                  go_upto_region 21 with fail
                  obtain ⟨wq, hwq⟩ : ∃ wq : World, wq = w6.alloc (.cells #[.string o.v, .int .i64 k] 36) := ⟨_, rfl⟩
                  rw [← hwq]
                  have hB5q : Below w5.heap.size w5 wq := by rw [hwq]; exact below_step B56.out (below_new1 _ _)
                  have HXW : Hid (wq.heap[wr.heap.size]? = some (.cells #[.int .i64 o.kind, .int .i64 o.i, .string o.v] 41 (0, 0))) := hp_step HBX5.out hB5q
                  have XW := Lib.hid (Y1.out.below hB5q)
                  have YW := Lib.hid (Y2.out.below hB5q)
                  have TW := Lib.hid (Y3.out.to fun sl s h => h.below hB5q)
                  have FW := Lib.hid (HFA.out)
                  have HBW := Lib.hid (below_step Y4.out hB5q)
                  have FBW := Lib.hid (fit_same FW.out TW.out)
                  clear hwq hB5q k1 k2 kz hpn
                  obtain ⟨⟨⟨xs, xn⟩, y⟩, hxy⟩ : ∃ p, p = logp.look g A' o.i := ⟨_, rfl⟩
                  obtain ⟨⟨⟨sa, sn, sc⟩, y2⟩, hxy2⟩ : ∃ p, p = logb.look g B' o.i := ⟨_, rfl⟩
                  have htl := twin_look TW.out g o.i
                  rw [← hxy, ← hxy2] at htl
                  obtain ⟨hyy, hbi⟩ := htl
                  dsimp only at hyy hbi
                  subst hyy
                  have GA := logp.get_ok wq _ _ _ _ _ o.i XW.out FW.out hi1 hi2
                  rw [← hxy] at GA
                  dsimp only at GA
                  have GA' := Lib.hid GA
                  have BI := Lib.hid hbi
                  have GB : Hid (∀ W', Below wq.heap.size wq W' → Calls Try.prog 24 #[.pointer (some ⟨bb, 0, none⟩), .int .i64 o.i] W' fun e w' => e = .returned (.tuple #[.slice sa sn sc, .bool y]) ∧ Below W'.heap.size W' w') := by
                    intro W' hW
                    have h := logb.get_ok W' _ _ _ _ _ o.i (YW.out.below hW) FBW.out hi1 hi2
                    rw [← hxy2] at h
                    exact h
                  have RA : Hid (∀ W', Below wq.heap.size wq W' → (Calls Try.prog 25 #[.pointer (some ⟨ba, 0, none⟩)] W' fun e w' => e = .returned (.int .i64 g) ∧ Below W'.heap.size W' w') ∧ (Calls Try.prog 27 #[.pointer (some ⟨ba, 0, none⟩)] W' fun e w' => e = .returned (.int .i64 (g + logp.nextN A')) ∧ Below W'.heap.size W' w') ∧ (Calls Try.prog 29 #[.pointer (some ⟨ba, 0, none⟩)] W' fun e w' => e = .returned (.int .i64 (g + (A').length)) ∧ Below W'.heap.size W' w') ∧ (Calls Try.prog 31 #[.pointer (some ⟨ba, 0, none⟩)] W' fun e w' => e = .returned (.int .i64 ((logp.allF g A').length : Nat)) ∧ Below W'.heap.size W' w')) := fun W' hW =>
                    ⟨(logp.first_ok W' _ _ _ _ _ (XW.out.below hW)).mono fun e w' ⟨h1, h2⟩ => ⟨h1, h2 ▸ Below.refl _ _⟩, logp.next_ok W' _ _ _ _ _ (XW.out.below hW) FW.out, logp.top_ok W' _ _ _ _ _ (XW.out.below hW) FW.out, logp.len_ok W' _ _ _ _ _ (XW.out.below hW) FW.out⟩
                  have RB : Hid (∀ W', Below wq.heap.size wq W' → (Calls Try.prog 26 #[.pointer (some ⟨bb, 0, none⟩)] W' fun e w' => e = .returned (.int .i64 g) ∧ Below W'.heap.size W' w') ∧ (Calls Try.prog 28 #[.pointer (some ⟨bb, 0, none⟩)] W' fun e w' => e = .returned (.int .i64 (g + logp.nextN A')) ∧ Below W'.heap.size W' w') ∧ (Calls Try.prog 30 #[.pointer (some ⟨bb, 0, none⟩)] W' fun e w' => e = .returned (.int .i64 (g + (A').length)) ∧ Below W'.heap.size W' w') ∧ (Calls Try.prog 32 #[.pointer (some ⟨bb, 0, none⟩)] W' fun e w' => e = .returned (.int .i64 ((logp.allF g A').length : Nat)) ∧ Below W'.heap.size W' w')) := fun W' hW => by
                    refine ⟨(logb.first_ok W' _ _ _ _ _ (YW.out.below hW)).mono fun e w' ⟨h1, h2⟩ => ⟨h1, h2 ▸ Below.refl _ _⟩, ?_, ?_, ?_⟩
                    · rw [twin_next TW.out]; exact logb.next_ok W' _ _ _ _ _ (YW.out.below hW) FBW.out
                    · rw [TW.out.1]; exact logb.top_ok W' _ _ _ _ _ (YW.out.below hW) FBW.out
                    · rw [twin_len TW.out g]; exact logb.len_ok W' _ _ _ _ _ (YW.out.below hW) FBW.out
                  obtain ⟨nq, hnq⟩ : ∃ n : Nat, n = logp.nextN A' := ⟨_, rfl⟩
                  obtain ⟨lq, hlq⟩ : ∃ n : Nat, n = (A').length := ⟨_, rfl⟩
                  obtain ⟨cq, hcq⟩ : ∃ n : Nat, n = (logp.allF g A').length := ⟨_, rfl⟩
                  rw [← hnq, ← hlq, ← hcq] at RA RB
                  obtain ⟨gq, hgq⟩ : ∃ n : Int, n = g := ⟨_, rfl⟩
                  rw [← hgq] at RA RB
                  have t1 := (blk3 HXW.out).2.1
                  have tz := (blk3 HXW.out).2.2.2.2.2.2
                  clear hxy hxy2 GA hbi hnq hlq hcq hgq
                  go_wp2_with fail
                  refine GA'.out.mono ?_; rintro e u1 ⟨rfl, hv1⟩
                  have U1 := Lib.hid hv1
                  have t1' := cell_step t1 hv1
                  have tz' := cell_lt t1'
                  clear t1 tz hv1
                  go_wp2_with fail
                  obtain ⟨u2, hu2⟩ : ∃ u2 : World, u2 = u1.alloc (.cells #[.string xs, .int .i64 xn] 36) := ⟨_, rfl⟩
                  rw [← hu2]
                  have hV2 : Below wq.heap.size wq u2 := by rw [hu2]; exact below_step U1.out (below_new1 _ _)
                  have hp2 : u2.heap[u1.heap.size]? = some (.cells #[.string xs, .int .i64 xn] 36 (0, 0)) := by rw [hu2]; exact hp_alloc_new _ _
                  have U2 := Lib.hid hV2
                  have P2 := Lib.hid hp2
                  clear hu2 hV2 hp2
                  refine (GB.out _ U2.out).mono ?_; rintro e u3 ⟨rfl, hv3⟩
                  have hp3 := hp_step P2.out hv3
                  obtain ⟨p0, p1, _, _, pz⟩ := blk2 hp3
                  have U3 := Lib.hid (below_step U2.out hv3)
                  clear hv3 hp3 t1' tz'
                  have hst := str_ne xs
                  cases y with
                  | true =>
                    have hcv := conv_back ((BI.out rfl).below U3.out)
                    dsimp only at hcv
                    go_wp2_with fail
                    refine (RA.out _ U3.out).1.mono ?_; rintro e u4 ⟨rfl, hv⟩
                    have U4 := Lib.hid (below_step U3.out hv)
                    clear hv
                    go_wp2_with fail
                    refine (RB.out _ U4.out).1.mono ?_; rintro e u5 ⟨rfl, hv⟩
                    have U5 := Lib.hid (below_step U4.out hv)
                    clear hv
                    go_wp2_with fail
                    refine (RA.out _ U5.out).2.1.mono ?_; rintro e u6 ⟨rfl, hv⟩
                    have U6 := Lib.hid (below_step U5.out hv)
                    clear hv
                    go_wp2_with fail
                    refine (RB.out _ U6.out).2.1.mono ?_; rintro e u7 ⟨rfl, hv⟩
                    have U7 := Lib.hid (below_step U6.out hv)
                    clear hv
                    go_wp2_with fail
                    refine (RA.out _ U7.out).2.2.1.mono ?_; rintro e u8 ⟨rfl, hv⟩
                    have U8 := Lib.hid (below_step U7.out hv)
                    clear hv
                    go_wp2_with fail
                    refine (RB.out _ U8.out).2.2.1.mono ?_; rintro e u9 ⟨rfl, hv⟩
                    have U9 := Lib.hid (below_step U8.out hv)
                    clear hv
                    go_wp2_with fail
                    refine (RA.out _ U9.out).2.2.2.mono ?_; rintro e u10 ⟨rfl, hv⟩
                    have U10 := Lib.hid (below_step U9.out hv)
                    clear hv
                    go_wp2_with fail
                    refine (RB.out _ U10.out).2.2.2.mono ?_; rintro e u11 ⟨rfl, hv⟩
                    have U11 := Lib.hid (below_step U10.out hv)
                    clear hv
                    go_wp2_with fail
                    go_roundw
                    case rel => exact ⟨k + 1, _, _, _, by omega, rfl, XW.out.below U11.out, YW.out.below U11.out, FW, (TW.out.to fun sl s h => h.below U11.out), below_step HBW.out U11.out⟩
                    case measure => simp [intOf]; omega
                  | false =>
                    go_wp2_with fail
                    refine (RA.out _ U3.out).1.mono ?_; rintro e u4 ⟨rfl, hv⟩
                    have U4 := Lib.hid (below_step U3.out hv)
                    clear hv
                    go_wp2_with fail
                    refine (RB.out _ U4.out).1.mono ?_; rintro e u5 ⟨rfl, hv⟩
                    have U5 := Lib.hid (below_step U4.out hv)
                    clear hv
                    go_wp2_with fail
                    refine (RA.out _ U5.out).2.1.mono ?_; rintro e u6 ⟨rfl, hv⟩
                    have U6 := Lib.hid (below_step U5.out hv)
                    clear hv
                    go_wp2_with fail
                    refine (RB.out _ U6.out).2.1.mono ?_; rintro e u7 ⟨rfl, hv⟩
                    have U7 := Lib.hid (below_step U6.out hv)
                    clear hv
                    go_wp2_with fail
                    refine (RA.out _ U7.out).2.2.1.mono ?_; rintro e u8 ⟨rfl, hv⟩
                    have U8 := Lib.hid (below_step U7.out hv)
                    clear hv
                    go_wp2_with fail
                    refine (RB.out _ U8.out).2.2.1.mono ?_; rintro e u9 ⟨rfl, hv⟩
                    have U9 := Lib.hid (below_step U8.out hv)
                    clear hv
                    go_wp2_with fail
                    refine (RA.out _ U9.out).2.2.2.mono ?_; rintro e u10 ⟨rfl, hv⟩
                    have U10 := Lib.hid (below_step U9.out hv)
                    clear hv
                    go_wp2_with fail
                    refine (RB.out _ U10.out).2.2.2.mono ?_; rintro e u11 ⟨rfl, hv⟩
                    have U11 := Lib.hid (below_step U10.out hv)
                    clear hv
                    go_wp2_with fail
                    go_roundw
                    case rel => exact ⟨k + 1, _, _, _, by omega, rfl, XW.out.below U11.out, YW.out.below U11.out, FW, (TW.out.to fun sl s h => h.below U11.out), below_step HBW.out U11.out⟩
                    case measure => simp [intOf]; omega
                · have HXW := HBX5
                  have XW := Lib.hid (Y1.out)
                  have YW := Lib.hid (Y2.out)
                  have TW := Lib.hid (Y3.out)
                  have FW := Lib.hid (HFA.out)
                  have HBW := Lib.hid (Y4.out)
                  have FBW := Lib.hid (fit_same FW.out TW.out)
                  go_upto_region 21 with fail
                  obtain ⟨⟨⟨xs, xn⟩, y⟩, hxy⟩ : ∃ p, p = logp.look g A' o.i := ⟨_, rfl⟩
                  obtain ⟨⟨⟨sa, sn, sc⟩, y2⟩, hxy2⟩ : ∃ p, p = logb.look g B' o.i := ⟨_, rfl⟩
                  have htl := twin_look TW.out g o.i
                  rw [← hxy, ← hxy2] at htl
                  obtain ⟨hyy, hbi⟩ := htl
                  dsimp only at hyy hbi
                  subst hyy
                  have GA := logp.get_ok w5 _ _ _ _ _ o.i XW.out FW.out hi1 hi2
                  rw [← hxy] at GA
                  dsimp only at GA
                  have GA' := Lib.hid GA
                  have BI := Lib.hid hbi
                  have GB : Hid (∀ W', Below w5.heap.size w5 W' → Calls Try.prog 24 #[.pointer (some ⟨bb, 0, none⟩), .int .i64 o.i] W' fun e w' => e = .returned (.tuple #[.slice sa sn sc, .bool y]) ∧ Below W'.heap.size W' w') := by
                    intro W' hW
                    have h := logb.get_ok W' _ _ _ _ _ o.i (YW.out.below hW) FBW.out hi1 hi2
                    rw [← hxy2] at h
                    exact h
                  have RA : Hid (∀ W', Below w5.heap.size w5 W' → (Calls Try.prog 25 #[.pointer (some ⟨ba, 0, none⟩)] W' fun e w' => e = .returned (.int .i64 g) ∧ Below W'.heap.size W' w') ∧ (Calls Try.prog 27 #[.pointer (some ⟨ba, 0, none⟩)] W' fun e w' => e = .returned (.int .i64 (g + logp.nextN A')) ∧ Below W'.heap.size W' w') ∧ (Calls Try.prog 29 #[.pointer (some ⟨ba, 0, none⟩)] W' fun e w' => e = .returned (.int .i64 (g + (A').length)) ∧ Below W'.heap.size W' w') ∧ (Calls Try.prog 31 #[.pointer (some ⟨ba, 0, none⟩)] W' fun e w' => e = .returned (.int .i64 ((logp.allF g A').length : Nat)) ∧ Below W'.heap.size W' w')) := fun W' hW =>
                    ⟨(logp.first_ok W' _ _ _ _ _ (XW.out.below hW)).mono fun e w' ⟨h1, h2⟩ => ⟨h1, h2 ▸ Below.refl _ _⟩, logp.next_ok W' _ _ _ _ _ (XW.out.below hW) FW.out, logp.top_ok W' _ _ _ _ _ (XW.out.below hW) FW.out, logp.len_ok W' _ _ _ _ _ (XW.out.below hW) FW.out⟩
                  have RB : Hid (∀ W', Below w5.heap.size w5 W' → (Calls Try.prog 26 #[.pointer (some ⟨bb, 0, none⟩)] W' fun e w' => e = .returned (.int .i64 g) ∧ Below W'.heap.size W' w') ∧ (Calls Try.prog 28 #[.pointer (some ⟨bb, 0, none⟩)] W' fun e w' => e = .returned (.int .i64 (g + logp.nextN A')) ∧ Below W'.heap.size W' w') ∧ (Calls Try.prog 30 #[.pointer (some ⟨bb, 0, none⟩)] W' fun e w' => e = .returned (.int .i64 (g + (A').length)) ∧ Below W'.heap.size W' w') ∧ (Calls Try.prog 32 #[.pointer (some ⟨bb, 0, none⟩)] W' fun e w' => e = .returned (.int .i64 ((logp.allF g A').length : Nat)) ∧ Below W'.heap.size W' w')) := fun W' hW => by
                    refine ⟨(logb.first_ok W' _ _ _ _ _ (YW.out.below hW)).mono fun e w' ⟨h1, h2⟩ => ⟨h1, h2 ▸ Below.refl _ _⟩, ?_, ?_, ?_⟩
                    · rw [twin_next TW.out]; exact logb.next_ok W' _ _ _ _ _ (YW.out.below hW) FBW.out
                    · rw [TW.out.1]; exact logb.top_ok W' _ _ _ _ _ (YW.out.below hW) FBW.out
                    · rw [twin_len TW.out g]; exact logb.len_ok W' _ _ _ _ _ (YW.out.below hW) FBW.out
                  obtain ⟨nq, hnq⟩ : ∃ n : Nat, n = logp.nextN A' := ⟨_, rfl⟩
                  obtain ⟨lq, hlq⟩ : ∃ n : Nat, n = (A').length := ⟨_, rfl⟩
                  obtain ⟨cq, hcq⟩ : ∃ n : Nat, n = (logp.allF g A').length := ⟨_, rfl⟩
                  rw [← hnq, ← hlq, ← hcq] at RA RB
                  obtain ⟨gq, hgq⟩ : ∃ n : Int, n = g := ⟨_, rfl⟩
                  rw [← hgq] at RA RB
                  have t1 := (blk3 HXW.out).2.1
                  have tz := (blk3 HXW.out).2.2.2.2.2.2
                  clear hxy hxy2 GA hbi hnq hlq hcq hgq
                  go_wp2_with fail
                  refine GA'.out.mono ?_; rintro e u1 ⟨rfl, hv1⟩
                  have U1 := Lib.hid hv1
                  have t1' := cell_step t1 hv1
                  have tz' := cell_lt t1'
                  clear t1 tz hv1
                  go_wp2_with fail
                  obtain ⟨u2, hu2⟩ : ∃ u2 : World, u2 = u1.alloc (.cells #[.string xs, .int .i64 xn] 36) := ⟨_, rfl⟩
                  rw [← hu2]
                  have hV2 : Below w5.heap.size w5 u2 := by rw [hu2]; exact below_step U1.out (below_new1 _ _)
                  have hp2 : u2.heap[u1.heap.size]? = some (.cells #[.string xs, .int .i64 xn] 36 (0, 0)) := by rw [hu2]; exact hp_alloc_new _ _
                  have U2 := Lib.hid hV2
                  have P2 := Lib.hid hp2
                  clear hu2 hV2 hp2
                  refine (GB.out _ U2.out).mono ?_; rintro e u3 ⟨rfl, hv3⟩
                  have hp3 := hp_step P2.out hv3
                  obtain ⟨p0, p1, _, _, pz⟩ := blk2 hp3
                  have U3 := Lib.hid (below_step U2.out hv3)
                  clear hv3 hp3 t1' tz'
                  have hst := str_ne xs
                  cases y with
                  | true =>
                    have hcv := conv_back ((BI.out rfl).below U3.out)
                    dsimp only at hcv
                    go_wp2_with fail
                    refine (RA.out _ U3.out).1.mono ?_; rintro e u4 ⟨rfl, hv⟩
                    have U4 := Lib.hid (below_step U3.out hv)
                    clear hv
                    go_wp2_with fail
                    refine (RB.out _ U4.out).1.mono ?_; rintro e u5 ⟨rfl, hv⟩
                    have U5 := Lib.hid (below_step U4.out hv)
                    clear hv
                    go_wp2_with fail
                    refine (RA.out _ U5.out).2.1.mono ?_; rintro e u6 ⟨rfl, hv⟩
                    have U6 := Lib.hid (below_step U5.out hv)
                    clear hv
                    go_wp2_with fail
                    refine (RB.out _ U6.out).2.1.mono ?_; rintro e u7 ⟨rfl, hv⟩
                    have U7 := Lib.hid (below_step U6.out hv)
                    clear hv
                    go_wp2_with fail
                    refine (RA.out _ U7.out).2.2.1.mono ?_; rintro e u8 ⟨rfl, hv⟩
                    have U8 := Lib.hid (below_step U7.out hv)
                    clear hv
                    go_wp2_with fail
                    refine (RB.out _ U8.out).2.2.1.mono ?_; rintro e u9 ⟨rfl, hv⟩
                    have U9 := Lib.hid (below_step U8.out hv)
                    clear hv
                    go_wp2_with fail
                    refine (RA.out _ U9.out).2.2.2.mono ?_; rintro e u10 ⟨rfl, hv⟩
                    have U10 := Lib.hid (below_step U9.out hv)
                    clear hv
                    go_wp2_with fail
                    refine (RB.out _ U10.out).2.2.2.mono ?_; rintro e u11 ⟨rfl, hv⟩
                    have U11 := Lib.hid (below_step U10.out hv)
                    clear hv
                    go_wp2_with fail
                    go_roundw
                    case rel => exact ⟨k + 1, _, _, _, by omega, rfl, XW.out.below U11.out, YW.out.below U11.out, FW, (TW.out.to fun sl s h => h.below U11.out), below_step HBW.out U11.out⟩
                    case measure => simp [intOf]; omega
                  | false =>
                    go_wp2_with fail
                    refine (RA.out _ U3.out).1.mono ?_; rintro e u4 ⟨rfl, hv⟩
                    have U4 := Lib.hid (below_step U3.out hv)
                    clear hv
                    go_wp2_with fail
                    refine (RB.out _ U4.out).1.mono ?_; rintro e u5 ⟨rfl, hv⟩
                    have U5 := Lib.hid (below_step U4.out hv)
                    clear hv
                    go_wp2_with fail
                    refine (RA.out _ U5.out).2.1.mono ?_; rintro e u6 ⟨rfl, hv⟩
                    have U6 := Lib.hid (below_step U5.out hv)
                    clear hv
                    go_wp2_with fail
                    refine (RB.out _ U6.out).2.1.mono ?_; rintro e u7 ⟨rfl, hv⟩
                    have U7 := Lib.hid (below_step U6.out hv)
                    clear hv
                    go_wp2_with fail
                    refine (RA.out _ U7.out).2.2.1.mono ?_; rintro e u8 ⟨rfl, hv⟩
                    have U8 := Lib.hid (below_step U7.out hv)
                    clear hv
                    go_wp2_with fail
                    refine (RB.out _ U8.out).2.2.1.mono ?_; rintro e u9 ⟨rfl, hv⟩
                    have U9 := Lib.hid (below_step U8.out hv)
                    clear hv
                    go_wp2_with fail
                    refine (RA.out _ U9.out).2.2.2.mono ?_; rintro e u10 ⟨rfl, hv⟩
                    have U10 := Lib.hid (below_step U9.out hv)
                    clear hv
                    go_wp2_with fail
                    refine (RB.out _ U10.out).2.2.2.mono ?_; rintro e u11 ⟨rfl, hv⟩
                    have U11 := Lib.hid (below_step U10.out hv)
                    clear hv
                    go_wp2_with fail
                    go_roundw
                    case rel => exact ⟨k + 1, _, _, _, by omega, rfl, XW.out.below U11.out, YW.out.below U11.out, FW, (TW.out.to fun sl s h => h.below U11.out), below_step HBW.out U11.out⟩
                    case measure => simp [intOf]; omega
              · exact AllReadyH.nil
            · exact AllReadyH.nil
          · refine AllReadyH.cons rfl (fun K hK => ?_) ?_
            · go_simp
              refine hK.out _ _ ⟨g1, g2⟩ (fun hHeld => ?_)
              clear hK K
              try simp only [Act.put, List.setIfInBounds_toArray, List.set_cons_zero, List.set_cons_succ]
              refine wpAnyH_ready (rs := [7]) (by kernel_rfl) (by simp) ?_
              refine AllReadyH.cons rfl (fun K hK => ?_) ?_
              · go_simp
                go_at_call 21; refine (HP.out _ (by first | exact below_drewN (Below.refl _ _) 1 | exact below_step (below_drewN (Below.refl _ _) 1) (conv_below _ _))).mono ?_; rintro e w4 ⟨rfl, hS4, hbx4, hby4⟩; have d1 := (blk3 hbx4).2.1; have d2 := (blk3 hbx4).2.2.1; have HBX4 := Lib.hid hbx4; clear hbx4
                dsimp only
                refine hK.out _ _ ⟨d1, d2⟩ (fun hHeld => ?_)
                clear hK K
                try simp only [Act.put, List.setIfInBounds_toArray, List.set_cons_zero, List.set_cons_succ]
                refine wpAnyH_ready (rs := [14]) (by kernel_rfl) (by simp) ?_
                refine AllReadyH.cons rfl (fun K hK => ?_) ?_
                · go_simp
                  go_at_call 22; refine (HRP.out _ _ _ _ (by first | exact hS4 | exact ⟨hS4.out.1.below (conv_below _ _), hS4.out.2.1.below (conv_below _ _), (hS4.out.2.2.1.to fun sl s h => h.below (conv_below _ _)), below_step hS4.out.2.2.2 (conv_below _ _)⟩) (by first | exact HBX4.out | exact hp_step HBX4.out (conv_below _ _)) (by first | exact conv_bytes _ _ | exact hby4.out _ _ (conv_bytes _ _))).mono ?_; rintro e w5 ⟨rfl, hS5, hbx5⟩; have e1 := (blk3 hbx5).2.1; have e2 := (blk3 hbx5).2.2.1; have HBX5 := Lib.hid hbx5; clear hbx5
                  dsimp only
                  refine hK.out _ _ ⟨e1, e2⟩ (fun hHeld => ?_)
                  clear hK K
                  try simp only [Act.put, List.setIfInBounds_toArray, List.set_cons_zero, List.set_cons_succ]
                  refine wpAnyH_take (i := 15) (v := ?_) rfl (by kernel_rfl) (by kernel_rfl) (by kernel_rfl) (fun _ _ _ h => h) (Or.inl ⟨by rfl, ?_⟩) (by assumption) ?_
                  rotate_left
                  · intro w hSw
                    try dsimp only at hSw
                    go_simp
                    try with_reducible rfl
                  try simp only [Act.put, List.setIfInBounds_toArray, List.set_cons_zero, List.set_cons_succ]
                  refine wpAnyH_take (i := 16) (v := ?_) rfl (by kernel_rfl) (by kernel_rfl) (by kernel_rfl) (fun _ _ _ h => h) (Or.inl ⟨by rfl, ?_⟩) (by assumption) ?_
                  rotate_left
                  · intro w hSw
                    try dsimp only at hSw
                    go_simp
                    try with_reducible rfl
                  try simp only [Act.put, List.setIfInBounds_toArray, List.set_cons_zero, List.set_cons_succ]
                  refine wpAnyH_done (by kernel_rfl) ?_ _
                  obtain ⟨B', x1, x2, x3, x4⟩ := hS5.out
                  have Y1 := Lib.hid x1
                  have Y2 := Lib.hid x2
                  have Y3 := Lib.hid x3
                  have Y4 := Lib.hid x4
                  clear x1 x2 x3 x4 hS5 hS4
                  rcases HRG.out with ⟨rfl, hlk⟩ | hE0
                  · have G5 := logp.get_ok w5 _ _ _ _ _ o.i Y1.out HFA.out hi1 hi2
                    rw [hlk] at G5
                    dsimp only at G5
                    have HG5 := Lib.hid G5
                    have hpn := pair_ne o.v k
                    clear G5 hlk
                    go_wp2_with fail
                    refine HG5.out.mono ?_; rintro e w6 ⟨rfl, hb6⟩
                    have hbx6 := hp_step HBX5.out hb6
                    have k2 := (blk3 hbx6).2.2.1
                    have k1 := (blk3 hbx6).2.1
                    have kz := (blk3 hbx6).2.2.2.2.2.2
                    have B56 := Lib.hid hb6
                    clear hb6
                    have HBX6 := Lib.hid hbx6
                    clear hbx6
                    go_upto_region 21 with fail
                    obtain ⟨wq, hwq⟩ : ∃ wq : World, wq = w6.alloc (.cells #[.string o.v, .int .i64 k] 36) := ⟨_, rfl⟩
                    rw [← hwq]
                    have hB5q : Below w5.heap.size w5 wq := by rw [hwq]; exact below_step B56.out (below_new1 _ _)
                    have HXW : Hid (wq.heap[wr.heap.size]? = some (.cells #[.int .i64 o.kind, .int .i64 o.i, .string o.v] 41 (0, 0))) := hp_step HBX5.out hB5q
                    have XW := Lib.hid (Y1.out.below hB5q)
                    have YW := Lib.hid (Y2.out.below hB5q)
                    have TW := Lib.hid (Y3.out.to fun sl s h => h.below hB5q)
                    have FW := Lib.hid (HFA.out)
                    have HBW := Lib.hid (below_step Y4.out hB5q)
                    have FBW := Lib.hid (fit_same FW.out TW.out)
                    clear hwq hB5q k1 k2 kz hpn
                    obtain ⟨⟨⟨xs, xn⟩, y⟩, hxy⟩ : ∃ p, p = logp.look g A' o.i := ⟨_, rfl⟩
                    obtain ⟨⟨⟨sa, sn, sc⟩, y2⟩, hxy2⟩ : ∃ p, p = logb.look g B' o.i := ⟨_, rfl⟩
                    have htl := twin_look TW.out g o.i
                    rw [← hxy, ← hxy2] at htl
                    obtain ⟨hyy, hbi⟩ := htl
                    dsimp only at hyy hbi
                    subst hyy
                    have GA := logp.get_ok wq _ _ _ _ _ o.i XW.out FW.out hi1 hi2
                    rw [← hxy] at GA
                    dsimp only at GA
                    have GA' := Lib.hid GA
                    have BI := Lib.hid hbi
                    have GB : Hid (∀ W', Below wq.heap.size wq W' → Calls Try.prog 24 #[.pointer (some ⟨bb, 0, none⟩), .int .i64 o.i] W' fun e w' => e = .returned (.tuple #[.slice sa sn sc, .bool y]) ∧ Below W'.heap.size W' w') := by
                      intro W' hW
                      have h := logb.get_ok W' _ _ _ _ _ o.i (YW.out.below hW) FBW.out hi1 hi2
                      rw [← hxy2] at h
                      exact h
                    have RA : Hid (∀ W', Below wq.heap.size wq W' → (Calls Try.prog 25 #[.pointer (some ⟨ba, 0, none⟩)] W' fun e w' => e = .returned (.int .i64 g) ∧ Below W'.heap.size W' w') ∧ (Calls Try.prog 27 #[.pointer (some ⟨ba, 0, none⟩)] W' fun e w' => e = .returned (.int .i64 (g + logp.nextN A')) ∧ Below W'.heap.size W' w') ∧ (Calls Try.prog 29 #[.pointer (some ⟨ba, 0, none⟩)] W' fun e w' => e = .returned (.int .i64 (g + (A').length)) ∧ Below W'.heap.size W' w') ∧ (Calls Try.prog 31 #[.pointer (some ⟨ba, 0, none⟩)] W' fun e w' => e = .returned (.int .i64 ((logp.allF g A').length : Nat)) ∧ Below W'.heap.size W' w')) := fun W' hW =>
                      ⟨(logp.first_ok W' _ _ _ _ _ (XW.out.below hW)).mono fun e w' ⟨h1, h2⟩ => ⟨h1, h2 ▸ Below.refl _ _⟩, logp.next_ok W' _ _ _ _ _ (XW.out.below hW) FW.out, logp.top_ok W' _ _ _ _ _ (XW.out.below hW) FW.out, logp.len_ok W' _ _ _ _ _ (XW.out.below hW) FW.out⟩
                    have RB : Hid (∀ W', Below wq.heap.size wq W' → (Calls Try.prog 26 #[.pointer (some ⟨bb, 0, none⟩)] W' fun e w' => e = .returned (.int .i64 g) ∧ Below W'.heap.size W' w') ∧ (Calls Try.prog 28 #[.pointer (some ⟨bb, 0, none⟩)] W' fun e w' => e = .returned (.int .i64 (g + logp.nextN A')) ∧ Below W'.heap.size W' w') ∧ (Calls Try.prog 30 #[.pointer (some ⟨bb, 0, none⟩)] W' fun e w' => e = .returned (.int .i64 (g + (A').length)) ∧ Below W'.heap.size W' w') ∧ (Calls Try.prog 32 #[.pointer (some ⟨bb, 0, none⟩)] W' fun e w' => e = .returned (.int .i64 ((logp.allF g A').length : Nat)) ∧ Below W'.heap.size W' w')) := fun W' hW => by
                      refine ⟨(logb.first_ok W' _ _ _ _ _ (YW.out.below hW)).mono fun e w' ⟨h1, h2⟩ => ⟨h1, h2 ▸ Below.refl _ _⟩, ?_, ?_, ?_⟩
                      · rw [twin_next TW.out]; exact logb.next_ok W' _ _ _ _ _ (YW.out.below hW) FBW.out
                      · rw [TW.out.1]; exact logb.top_ok W' _ _ _ _ _ (YW.out.below hW) FBW.out
                      · rw [twin_len TW.out g]; exact logb.len_ok W' _ _ _ _ _ (YW.out.below hW) FBW.out
                    obtain ⟨nq, hnq⟩ : ∃ n : Nat, n = logp.nextN A' := ⟨_, rfl⟩
                    obtain ⟨lq, hlq⟩ : ∃ n : Nat, n = (A').length := ⟨_, rfl⟩
                    obtain ⟨cq, hcq⟩ : ∃ n : Nat, n = (logp.allF g A').length := ⟨_, rfl⟩
                    rw [← hnq, ← hlq, ← hcq] at RA RB
                    obtain ⟨gq, hgq⟩ : ∃ n : Int, n = g := ⟨_, rfl⟩
                    rw [← hgq] at RA RB
                    have t1 := (blk3 HXW.out).2.1
                    have tz := (blk3 HXW.out).2.2.2.2.2.2
                    clear hxy hxy2 GA hbi hnq hlq hcq hgq
                    go_wp2_with fail
                    refine GA'.out.mono ?_; rintro e u1 ⟨rfl, hv1⟩
                    have U1 := Lib.hid hv1
                    have t1' := cell_step t1 hv1
                    have tz' := cell_lt t1'
                    clear t1 tz hv1
                    go_wp2_with fail
                    obtain ⟨u2, hu2⟩ : ∃ u2 : World, u2 = u1.alloc (.cells #[.string xs, .int .i64 xn] 36) := ⟨_, rfl⟩
                    rw [← hu2]
                    have hV2 : Below wq.heap.size wq u2 := by rw [hu2]; exact below_step U1.out (below_new1 _ _)
                    have hp2 : u2.heap[u1.heap.size]? = some (.cells #[.string xs, .int .i64 xn] 36 (0, 0)) := by rw [hu2]; exact hp_alloc_new _ _
                    have U2 := Lib.hid hV2
                    have P2 := Lib.hid hp2
                    clear hu2 hV2 hp2
                    refine (GB.out _ U2.out).mono ?_; rintro e u3 ⟨rfl, hv3⟩
                    have hp3 := hp_step P2.out hv3
                    obtain ⟨p0, p1, _, _, pz⟩ := blk2 hp3
                    have U3 := Lib.hid (below_step U2.out hv3)
                    clear hv3 hp3 t1' tz'
                    have hst := str_ne xs
                    cases y with
                    | true =>
                      have hcv := conv_back ((BI.out rfl).below U3.out)
                      dsimp only at hcv
                      go_wp2_with fail
                      refine (RA.out _ U3.out).1.mono ?_; rintro e u4 ⟨rfl, hv⟩
                      have U4 := Lib.hid (below_step U3.out hv)
                      clear hv
                      go_wp2_with fail
                      refine (RB.out _ U4.out).1.mono ?_; rintro e u5 ⟨rfl, hv⟩
                      have U5 := Lib.hid (below_step U4.out hv)
                      clear hv
                      go_wp2_with fail
                      refine (RA.out _ U5.out).2.1.mono ?_; rintro e u6 ⟨rfl, hv⟩
                      have U6 := Lib.hid (below_step U5.out hv)
                      clear hv
                      go_wp2_with fail
                      refine (RB.out _ U6.out).2.1.mono ?_; rintro e u7 ⟨rfl, hv⟩
                      have U7 := Lib.hid (below_step U6.out hv)
                      clear hv
                      go_wp2_with fail
                      refine (RA.out _ U7.out).2.2.1.mono ?_; rintro e u8 ⟨rfl, hv⟩
                      have U8 := Lib.hid (below_step U7.out hv)
                      clear hv
                      go_wp2_with fail
                      refine (RB.out _ U8.out).2.2.1.mono ?_; rintro e u9 ⟨rfl, hv⟩
                      have U9 := Lib.hid (below_step U8.out hv)
                      clear hv
                      go_wp2_with fail
                      refine (RA.out _ U9.out).2.2.2.mono ?_; rintro e u10 ⟨rfl, hv⟩
                      have U10 := Lib.hid (below_step U9.out hv)
                      clear hv
                      go_wp2_with fail
                      refine (RB.out _ U10.out).2.2.2.mono ?_; rintro e u11 ⟨rfl, hv⟩
                      have U11 := Lib.hid (below_step U10.out hv)
                      clear hv
                      go_wp2_with fail
                      go_roundw
                      case rel => exact ⟨k + 1, _, _, _, by omega, rfl, XW.out.below U11.out, YW.out.below U11.out, FW, (TW.out.to fun sl s h => h.below U11.out), below_step HBW.out U11.out⟩
                      case measure => simp [intOf]; omega
                    | false =>
                      go_wp2_with fail
                      refine (RA.out _ U3.out).1.mono ?_; rintro e u4 ⟨rfl, hv⟩
                      have U4 := Lib.hid (below_step U3.out hv)
                      clear hv
                      go_wp2_with fail
                      refine (RB.out _ U4.out).1.mono ?_; rintro e u5 ⟨rfl, hv⟩
                      have U5 := Lib.hid (below_step U4.out hv)
                      clear hv
                      go_wp2_with fail
                      refine (RA.out _ U5.out).2.1.mono ?_; rintro e u6 ⟨rfl, hv⟩
                      have U6 := Lib.hid (below_step U5.out hv)
                      clear hv
                      go_wp2_with fail
                      refine (RB.out _ U6.out).2.1.mono ?_; rintro e u7 ⟨rfl, hv⟩
                      have U7 := Lib.hid (below_step U6.out hv)
                      clear hv
                      go_wp2_with fail
                      refine (RA.out _ U7.out).2.2.1.mono ?_; rintro e u8 ⟨rfl, hv⟩
                      have U8 := Lib.hid (below_step U7.out hv)
                      clear hv
                      go_wp2_with fail
                      refine (RB.out _ U8.out).2.2.1.mono ?_; rintro e u9 ⟨rfl, hv⟩
                      have U9 := Lib.hid (below_step U8.out hv)
                      clear hv
                      go_wp2_with fail
                      refine (RA.out _ U9.out).2.2.2.mono ?_; rintro e u10 ⟨rfl, hv⟩
                      have U10 := Lib.hid (below_step U9.out hv)
                      clear hv
                      go_wp2_with fail
                      refine (RB.out _ U10.out).2.2.2.mono ?_; rintro e u11 ⟨rfl, hv⟩
                      have U11 := Lib.hid (below_step U10.out hv)
                      clear hv
                      go_wp2_with fail
                      go_roundw
                      case rel => exact ⟨k + 1, _, _, _, by omega, rfl, XW.out.below U11.out, YW.out.below U11.out, FW, (TW.out.to fun sl s h => h.below U11.out), below_step HBW.out U11.out⟩
                      case measure => simp [intOf]; omega
                  · have HXW := HBX5
                    have XW := Lib.hid (Y1.out)
                    have YW := Lib.hid (Y2.out)
                    have TW := Lib.hid (Y3.out)
                    have FW := Lib.hid (HFA.out)
                    have HBW := Lib.hid (Y4.out)
                    have FBW := Lib.hid (fit_same FW.out TW.out)
                    go_upto_region 21 with fail
                    obtain ⟨⟨⟨xs, xn⟩, y⟩, hxy⟩ : ∃ p, p = logp.look g A' o.i := ⟨_, rfl⟩
                    obtain ⟨⟨⟨sa, sn, sc⟩, y2⟩, hxy2⟩ : ∃ p, p = logb.look g B' o.i := ⟨_, rfl⟩
                    have htl := twin_look TW.out g o.i
                    rw [← hxy, ← hxy2] at htl
                    obtain ⟨hyy, hbi⟩ := htl
                    dsimp only at hyy hbi
                    subst hyy
                    have GA := logp.get_ok w5 _ _ _ _ _ o.i XW.out FW.out hi1 hi2
                    rw [← hxy] at GA
                    dsimp only at GA
                    have GA' := Lib.hid GA
                    have BI := Lib.hid hbi
                    have GB : Hid (∀ W', Below w5.heap.size w5 W' → Calls Try.prog 24 #[.pointer (some ⟨bb, 0, none⟩), .int .i64 o.i] W' fun e w' => e = .returned (.tuple #[.slice sa sn sc, .bool y]) ∧ Below W'.heap.size W' w') := by
                      intro W' hW
                      have h := logb.get_ok W' _ _ _ _ _ o.i (YW.out.below hW) FBW.out hi1 hi2
                      rw [← hxy2] at h
                      exact h
                    have RA : Hid (∀ W', Below w5.heap.size w5 W' → (Calls Try.prog 25 #[.pointer (some ⟨ba, 0, none⟩)] W' fun e w' => e = .returned (.int .i64 g) ∧ Below W'.heap.size W' w') ∧ (Calls Try.prog 27 #[.pointer (some ⟨ba, 0, none⟩)] W' fun e w' => e = .returned (.int .i64 (g + logp.nextN A')) ∧ Below W'.heap.size W' w') ∧ (Calls Try.prog 29 #[.pointer (some ⟨ba, 0, none⟩)] W' fun e w' => e = .returned (.int .i64 (g + (A').length)) ∧ Below W'.heap.size W' w') ∧ (Calls Try.prog 31 #[.pointer (some ⟨ba, 0, none⟩)] W' fun e w' => e = .returned (.int .i64 ((logp.allF g A').length : Nat)) ∧ Below W'.heap.size W' w')) := fun W' hW =>
                      ⟨(logp.first_ok W' _ _ _ _ _ (XW.out.below hW)).mono fun e w' ⟨h1, h2⟩ => ⟨h1, h2 ▸ Below.refl _ _⟩, logp.next_ok W' _ _ _ _ _ (XW.out.below hW) FW.out, logp.top_ok W' _ _ _ _ _ (XW.out.below hW) FW.out, logp.len_ok W' _ _ _ _ _ (XW.out.below hW) FW.out⟩
                    have RB : Hid (∀ W', Below w5.heap.size w5 W' → (Calls Try.prog 26 #[.pointer (some ⟨bb, 0, none⟩)] W' fun e w' => e = .returned (.int .i64 g) ∧ Below W'.heap.size W' w') ∧ (Calls Try.prog 28 #[.pointer (some ⟨bb, 0, none⟩)] W' fun e w' => e = .returned (.int .i64 (g + logp.nextN A')) ∧ Below W'.heap.size W' w') ∧ (Calls Try.prog 30 #[.pointer (some ⟨bb, 0, none⟩)] W' fun e w' => e = .returned (.int .i64 (g + (A').length)) ∧ Below W'.heap.size W' w') ∧ (Calls Try.prog 32 #[.pointer (some ⟨bb, 0, none⟩)] W' fun e w' => e = .returned (.int .i64 ((logp.allF g A').length : Nat)) ∧ Below W'.heap.size W' w')) := fun W' hW => by
                      refine ⟨(logb.first_ok W' _ _ _ _ _ (YW.out.below hW)).mono fun e w' ⟨h1, h2⟩ => ⟨h1, h2 ▸ Below.refl _ _⟩, ?_, ?_, ?_⟩
                      · rw [twin_next TW.out]; exact logb.next_ok W' _ _ _ _ _ (YW.out.below hW) FBW.out
                      · rw [TW.out.1]; exact logb.top_ok W' _ _ _ _ _ (YW.out.below hW) FBW.out
                      · rw [twin_len TW.out g]; exact logb.len_ok W' _ _ _ _ _ (YW.out.below hW) FBW.out
                    obtain ⟨nq, hnq⟩ : ∃ n : Nat, n = logp.nextN A' := ⟨_, rfl⟩
                    obtain ⟨lq, hlq⟩ : ∃ n : Nat, n = (A').length := ⟨_, rfl⟩
                    obtain ⟨cq, hcq⟩ : ∃ n : Nat, n = (logp.allF g A').length := ⟨_, rfl⟩
                    rw [← hnq, ← hlq, ← hcq] at RA RB
                    obtain ⟨gq, hgq⟩ : ∃ n : Int, n = g := ⟨_, rfl⟩
                    rw [← hgq] at RA RB
                    have t1 := (blk3 HXW.out).2.1
                    have tz := (blk3 HXW.out).2.2.2.2.2.2
                    clear hxy hxy2 GA hbi hnq hlq hcq hgq
                    go_wp2_with fail
                    refine GA'.out.mono ?_; rintro e u1 ⟨rfl, hv1⟩
                    have U1 := Lib.hid hv1
                    have t1' := cell_step t1 hv1
                    have tz' := cell_lt t1'
                    clear t1 tz hv1
                    go_wp2_with fail
                    obtain ⟨u2, hu2⟩ : ∃ u2 : World, u2 = u1.alloc (.cells #[.string xs, .int .i64 xn] 36) := ⟨_, rfl⟩
                    rw [← hu2]
                    have hV2 : Below w5.heap.size w5 u2 := by rw [hu2]; exact below_step U1.out (below_new1 _ _)
                    have hp2 : u2.heap[u1.heap.size]? = some (.cells #[.string xs, .int .i64 xn] 36 (0, 0)) := by rw [hu2]; exact hp_alloc_new _ _
                    have U2 := Lib.hid hV2
                    have P2 := Lib.hid hp2
                    clear hu2 hV2 hp2
                    refine (GB.out _ U2.out).mono ?_; rintro e u3 ⟨rfl, hv3⟩
                    have hp3 := hp_step P2.out hv3
                    obtain ⟨p0, p1, _, _, pz⟩ := blk2 hp3
                    have U3 := Lib.hid (below_step U2.out hv3)
                    clear hv3 hp3 t1' tz'
                    have hst := str_ne xs
                    cases y with
                    | true =>
                      have hcv := conv_back ((BI.out rfl).below U3.out)
                      dsimp only at hcv
                      go_wp2_with fail
                      refine (RA.out _ U3.out).1.mono ?_; rintro e u4 ⟨rfl, hv⟩
                      have U4 := Lib.hid (below_step U3.out hv)
                      clear hv
                      go_wp2_with fail
                      refine (RB.out _ U4.out).1.mono ?_; rintro e u5 ⟨rfl, hv⟩
                      have U5 := Lib.hid (below_step U4.out hv)
                      clear hv
                      go_wp2_with fail
                      refine (RA.out _ U5.out).2.1.mono ?_; rintro e u6 ⟨rfl, hv⟩
                      have U6 := Lib.hid (below_step U5.out hv)
                      clear hv
                      go_wp2_with fail
                      refine (RB.out _ U6.out).2.1.mono ?_; rintro e u7 ⟨rfl, hv⟩
                      have U7 := Lib.hid (below_step U6.out hv)
                      clear hv
                      go_wp2_with fail
                      refine (RA.out _ U7.out).2.2.1.mono ?_; rintro e u8 ⟨rfl, hv⟩
                      have U8 := Lib.hid (below_step U7.out hv)
                      clear hv
                      go_wp2_with fail
                      refine (RB.out _ U8.out).2.2.1.mono ?_; rintro e u9 ⟨rfl, hv⟩
                      have U9 := Lib.hid (below_step U8.out hv)
                      clear hv
                      go_wp2_with fail
                      refine (RA.out _ U9.out).2.2.2.mono ?_; rintro e u10 ⟨rfl, hv⟩
                      have U10 := Lib.hid (below_step U9.out hv)
                      clear hv
                      go_wp2_with fail
                      refine (RB.out _ U10.out).2.2.2.mono ?_; rintro e u11 ⟨rfl, hv⟩
                      have U11 := Lib.hid (below_step U10.out hv)
                      clear hv
                      go_wp2_with fail
                      go_roundw
                      case rel => exact ⟨k + 1, _, _, _, by omega, rfl, XW.out.below U11.out, YW.out.below U11.out, FW, (TW.out.to fun sl s h => h.below U11.out), below_step HBW.out U11.out⟩
                      case measure => simp [intOf]; omega
                    | false =>
                      go_wp2_with fail
                      refine (RA.out _ U3.out).1.mono ?_; rintro e u4 ⟨rfl, hv⟩
                      have U4 := Lib.hid (below_step U3.out hv)
                      clear hv
                      go_wp2_with fail
                      refine (RB.out _ U4.out).1.mono ?_; rintro e u5 ⟨rfl, hv⟩
                      have U5 := Lib.hid (below_step U4.out hv)
                      clear hv
                      go_wp2_with fail
                      refine (RA.out _ U5.out).2.1.mono ?_; rintro e u6 ⟨rfl, hv⟩
                      have U6 := Lib.hid (below_step U5.out hv)
                      clear hv
                      go_wp2_with fail
                      refine (RB.out _ U6.out).2.1.mono ?_; rintro e u7 ⟨rfl, hv⟩
                      have U7 := Lib.hid (below_step U6.out hv)
                      clear hv
                      go_wp2_with fail
                      refine (RA.out _ U7.out).2.2.1.mono ?_; rintro e u8 ⟨rfl, hv⟩
                      have U8 := Lib.hid (below_step U7.out hv)
                      clear hv
                      go_wp2_with fail
                      refine (RB.out _ U8.out).2.2.1.mono ?_; rintro e u9 ⟨rfl, hv⟩
                      have U9 := Lib.hid (below_step U8.out hv)
                      clear hv
                      go_wp2_with fail
                      refine (RA.out _ U9.out).2.2.2.mono ?_; rintro e u10 ⟨rfl, hv⟩
                      have U10 := Lib.hid (below_step U9.out hv)
                      clear hv
                      go_wp2_with fail
                      refine (RB.out _ U10.out).2.2.2.mono ?_; rintro e u11 ⟨rfl, hv⟩
                      have U11 := Lib.hid (below_step U10.out hv)
                      clear hv
                      go_wp2_with fail
                      go_roundw
                      case rel => exact ⟨k + 1, _, _, _, by omega, rfl, XW.out.below U11.out, YW.out.below U11.out, FW, (TW.out.to fun sl s h => h.below U11.out), below_step HBW.out U11.out⟩
                      case measure => simp [intOf]; omega
                · exact AllReadyH.nil
              · exact AllReadyH.nil
            · exact AllReadyH.nil
    · obtain rfl : k = l.length := by omega
      go_wp2_with fail
      go_ret
      exact ⟨rfl, hB.out⟩

theorem lawWalk {H : Type} (enc : TypeId × Value → H) : LawWalk enc Try.prog 4 Try.f4 (fun _ => True) := by
  intro W base args ds p hval hA hsz _
  rw [Try.params4] at hA hval
  obtain ⟨v0, vs0, d0, ds0, p0, q0, hargs, rfl, rfl, h0, r0⟩ := trodAll_cons hA
  obtain ⟨v1, vs1, d1, ds1, p1, q1, rfl, rfl, rfl, h1, r1⟩ := trodAll_cons r0
  obtain ⟨v2, vs2, d2, ds2, p2, q2, rfl, rfl, rfl, h2, r2⟩ := trodAll_cons r1
  obtain ⟨rfl, rfl, rfl⟩ := trodAll_nil r2
  obtain rfl : args = #[v0, v1, v2] := by cases args; simp_all
  obtain ⟨f0, rfl, rfl, rfl, w0⟩ := open_int Try.underlying3 (hval 0 3 v0 rfl rfl) h0
  obtain ⟨m0, rfl, rfl, rfl, w1⟩ := open_int Try.underlying3 (hval 1 3 v1 rfl rfl) h1
  obtain ⟨a, l, cap, es, sp, rfl, hlc, hcm, hn, hat, hd, hel, hsp, hgood⟩ := open_slice_gen 3 ocells (fun o _ => o.ok) Try.underlying22 (by kernel_rfl) (by omega) (fun n cs y _ h => elem_op n cs y h) (hval 2 22 v2 rfl rfl) h2
  exact kinds_ok W f0 m0 a l cap  (by unfold maxLen at hcm; omega) hat (fun k hk => hgood k hk (by omega))

theorem own : ownKnob Try.prog.godebug = none := by kernel_rfl
theorem laidOut : laidOutB Try.prog = true := by kernel_rfl

set_option maxRecDepth 100000 in
theorem lifted (os : Os) (started : os.Started) (H : Type) (enc : TypeId × Value → H) :
    ReturnsInHanded {} Try.checked os 4 .any (Rows.slotsKindsSpec.pre6 enc Try.prog Try.f4 Rows.slotsKindsRow.domain false) (Rows.slotsKindsSpec.post enc Try.prog Try.f4 false true false false) := by
  refine returnsInHanded_of_change_sized (C := Try.checked) own started (by kernel_rfl) Try.func4
    (ChangeSpec.witness6 (enc := enc) (C := Try.checked) false ⟨#[], #[.int .i64 0, .int .i64 0, .slice none 0 0], []⟩ 8 (by kernel_rfl) (by kernel_rfl) (by kernel_rfl) (by kernel_rfl)) ?_
  intro W base args ds gs before hval hW hcnd hsz _
  exact law_post (C := Try.checked) laidOut (fun ds h => by match ds, h with | [_, _, _], _ => rfl) 4 rfl Try.underlying4 rfl (by kernel_rfl) hval hW hsz trivial (lawWalk enc)

theorem proved : Rows.SlotsKindsSaid :=
  OpenClaim.holds_of_wide 4 Try.f4 rfl rfl rfl rfl rfl rfl rfl ⟨rfl, rfl, rfl, rfl, rfl⟩ rfl rfl rfl rfl rfl (by kernel_rfl) Try.func4 (by kernel_rfl)
    (of_decide_eq_true (by kernel_rfl)) (by unfold Func.isWrapper; first | (rw [if_pos (by decide +kernel)]; kernel_rfl) | (rw [if_neg (by decide +kernel)]; exact ⟨rfl, rfl⟩))
    (fun os started H enc _ => lifted os started H enc)
#print axioms proved
end Go.Proofs.Ytpnkohjppbgiaaa.slotsKinds
