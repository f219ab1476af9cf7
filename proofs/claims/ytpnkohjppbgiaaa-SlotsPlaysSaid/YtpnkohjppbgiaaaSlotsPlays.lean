/-
  The statement SlotsPlays: each answer, and all that is told, is the document's.
-/
import Derived.Test.YtpnkohjppbgiaaaSlotAgree
import Derived.Test.YtpnkohjppbgiaaaSlotR
import Derived.Test.YtpnkohjppbgiaaaSlotAw
import Derived.Test.YtpnkohjppbgiaaaChecked
import Derived.Deep.RegionHeld3
import Derived.Test.YtpnkohjppbgiaaaRows
namespace Go.Proofs.Ytpnkohjppbgiaaa.slotsPlays
open Go.ChangeShapes Go.WideShapes Go.ChangeAt Go.RowKit Go.Joins
open Go.Proofs.Ytpnkohjppbgiaaa.kit Go.Proofs.Ytpnkohjppbgiaaa.logs Go.Proofs.Ytpnkohjppbgiaaa.slotref Go.Proofs.Ytpnkohjppbgiaaa.slotplain Go.Proofs.Ytpnkohjppbgiaaa.slotagree Go.Proofs.Ytpnkohjppbgiaaa.slotaw
open Go.Proofs.Ytpnkohjppbgiaaa.slotr (OpV OpV.ok ocells elem_op row_op i64_wf)
set_option linter.unusedVariables false
set_option linter.unusedSimpArgs false
set_option maxHeartbeats 4000000
set_option maxRecDepth 100000

theorem put_rel' {f m : Int} {cs : Cs} {L : HL} (h : Rel f m cs L) (hF : Fit f m cs) (i : Int) (v : ByteArray) : Rel f m (putC f m cs i v) (if i < f ∨ m ≤ i - f then L else putL L i v) := by
  by_cases hc : i < f ∨ m ≤ i - f
  · rw [if_pos hc, putC, if_pos hc]; exact h
  · rw [if_neg hc]; exact put_rel h hF i v (by omega) (by omega)
theorem str_ne (x : ByteArray) (w : World) : (binOp .neq 9 (.string x) (.string x)).run Try.prog w = .ok (.bool false) w := by go_simp
theorem plays_ok (w : World) (f0 m0 : Int) (a : Option Addr) (l : List OpV) (cap : Nat) (hl : l.length ≤ 9223372036854775807) (hat : RowsAt w a 3 (l.map ocells)) (hok : ∀ k (hk : k < l.length), (l[k]).ok) :
    Calls Try.prog 6 #[.int .i64 f0, .int .i64 m0, .slice a l.length cap] w fun e w' => e = .returned (.bool true) ∧ Below w.heap.size w w' := by
  have hN := Lib.hid (new_ok w f0 m0)
  have hRN := Lib.hid (fun W => rnew_ok W f0 m0)
  obtain ⟨f, hf⟩ : ∃ f, f = min (max f0 1) 1099511627776 := ⟨_, rfl⟩
  obtain ⟨m, hm⟩ : ∃ m, m = min (max m0 1) 1024 := ⟨_, rfl⟩
  have hF0 : Fit f m [] := ⟨by omega, by omega, by omega, by omega, by simp; omega⟩
  rw [← hf, ← hm] at hN hRN
  have HR := Lib.hid (fun (wr : World) (hb : Below w.heap.size w wr) k hk => row_op (hat.below hb) k hk)
  have HOK := Lib.hid hok
  have HF0 := Lib.hid hF0
  clear hok hF0 hat hf hm
  obtain ⟨bl, hbl⟩ : ∃ b, b = w.heap.size := ⟨_, rfl⟩
  rw [← hbl] at hN
  have HBL := Lib.hid hbl
  clear hbl
  go_enter Try.func6, Try.ntmps6
  go_wp2_with fail
  refine hN.out.mono ?_; rintro e w1 ⟨rfl, hL1, hb1⟩
  rw [HBL.out] at hb1
  have HL1 := Lib.hid hL1
  have HB1 := Lib.hid hb1
  clear hL1 hb1 hN
  go_wp2_with fail
  refine (hRN.out w1).mono ?_; rintro e w2 ⟨rfl, hr2, hb2⟩
  obtain ⟨br, hbr⟩ : ∃ b, b = w1.heap.size := ⟨_, rfl⟩
  rw [← hbr] at hr2 ⊢
  have HL2 := Lib.hid (HL1.out.below hb2)
  have HR2 := Lib.hid hr2
  have HB2 := Lib.hid (below_step HB1.out hb2)
  have hlr := hb2.size
  have hlt1 := HL1.out.lt
  have hlr2 : w.heap.size ≤ br := by rw [hbr]; exact HB1.out.size
  have HBR := Lib.hid hbr
  clear hbr
  clear hr2 hb2 hRN
  go_wp2_with fail
  refine (awake_ok w2).mono ?_; rintro e w3 ⟨rfl, hb3⟩
  have HL3 := Lib.hid (HL2.out.below hb3)
  have HR3 := Lib.hid (HR2.out.below hb3)
  have HB3 := Lib.hid (below_step HB2.out hb3)
  clear hb3
  go_wp2_with fail
  go_loopw [9] (fun i wr => ∃ (k : Nat) (g : Int) (cs : Cs) (L : HL), k ≤ l.length ∧ i = .int .i64 k ∧ Hid (LogAt wr bl bl g m cs) ∧ Hid (RefAt wr br br g m L) ∧ Hid (Fit g m cs) ∧ Hid (Rel g m cs L) ∧ Hid (Below w.heap.size w wr)) (fun i _ => l.length - (intOf i).toNat)
  case atStart => exact ⟨0, f, [], [], Nat.zero_le _, rfl, HL3, HR3, HF0, rel_start f m, HB3⟩
  case round =>
    obtain ⟨k, g, cs, L, hk, rfl, hL, hRf, hF, hRel, hB⟩ := hrel
    by_cases hlt : k < l.length
    · obtain ⟨rg, off, rfl, hgz, r0, r1, r2⟩ := HR.out wr hB.out k hlt
      obtain ⟨o, ho⟩ : ∃ o, o = l[k] := ⟨_, rfl⟩
      have hoo : o.ok := ho ▸ HOK.out k hlt
      rw [← ho] at r0 r1 r2
      clear ho
      obtain ⟨hi1, hi2⟩ := hoo
      have hsz := hB.out.size
      have hw : IntKind.i64.wrap ((k : Int) + 1) = ((k + 1 : Nat) : Int) := by rw [IntWalk.i64_in _ (by omega)]; rfl
      obtain ⟨wb, hwb⟩ : ∃ wb, wb = wr.alloc (.cells #[.int .i64 o.kind, .int .i64 o.i, .string o.v] 41) := ⟨_, rfl⟩
      have hbb : Below wr.heap.size wr wb := by rw [hwb]; exact below_new1 _ _
      have hbox : wb.heap[wr.heap.size]? = some (.cells #[.int .i64 o.kind, .int .i64 o.i, .string o.v] 41 (0, 0)) := by rw [hwb]; exact hp_alloc_new _ _
      have HLb := Lib.hid (hL.out.below hbb)
      have HRb := Lib.hid (hRf.out.below hbb)
      have HBb := Lib.hid (below_step hB.out hbb)
      have hszb := HBb.out.size
      have HX := Lib.hid hbox
      have HAG : Hid (∀ (W : World) (g' : Int) (cs' : Cs) (L' : HL), LogAt W bl bl g' m cs' → RefAt W br br g' m L' → Fit g' m cs' → Rel g' m cs' L' → Calls Try.prog 44 #[.pointer (some ⟨bl, 0, none⟩), .pointer (some ⟨br, 0, none⟩)] W fun e w' => e = .returned (.bool true) ∧ Below W.heap.size W w') := fun W g' cs' L' h1 h2 h3 h4 => agree_ok W bl bl br br g' m cs' L' h1 h3 h2 h4
      by_cases hk1 : o.kind = 1
      · have HG := Lib.hid (get_ok wb _ _ _ _ _ o.i HLb.out hF.out hi1 hi2)
        have HRG : Hid (∀ W, Below wb.heap.size wb W → Calls Try.prog 39 #[.pointer (some ⟨br, 0, none⟩), .int .i64 o.i] W fun e w' => e = .returned (.tuple #[.string (logs.look g cs o.i).1, .bool (logs.look g cs o.i).2]) ∧ w' = W) := by
          intro W hW
          have := rget_ok W br br g m L o.i (HRb.out.below hW) (rfit hRel.out hF.out).len
          rwa [get_rel hRel.out] at this
        obtain ⟨⟨x, y⟩, hxy⟩ : ∃ p, p = logs.look g cs o.i := ⟨_, rfl⟩
        rw [← hxy] at HG HRG
        have hne := str_ne x
        obtain ⟨q0, q1, q2, _, _, _, qz⟩ := blk3 hbox
        rw [hk1] at r0 q0
        rw [hk1] at hwb
        clear hk1 hxy hbox
        go_wp2_with fail
        rw [← hwb]
        refine HG.out.mono ?_; rintro e w4 ⟨rfl, hb4⟩
        have c1 := cell_step q1 hb4
        have cz := cell_lt c1
        have HB4 := Lib.hid hb4
        clear hb4 q0 q1 q2 qz
        go_wp2_with fail
        refine (HRG.out _ HB4.out).mono ?_; rintro e w5 ⟨rfl, rfl⟩
        go_wp2_with fail
        refine (HAG.out _ _ _ _ (HLb.out.below HB4.out) (HRb.out.below HB4.out) hF.out hRel.out).mono ?_; rintro e w6 ⟨rfl, hb6⟩
        have B6 := Lib.hid (below_step HB4.out hb6)
        clear hb6
        go_wp2_with fail
        go_roundw
        case rel => exact ⟨k + 1, g, cs, L, by omega, rfl, HLb.out.below B6.out, HRb.out.below B6.out, hF, hRel, below_step HBb.out B6.out⟩
        case measure => simp [intOf]; omega
      · by_cases hk2 : o.kind = 2
        · have HP : Hid (∀ W, Below wb.heap.size wb W → Calls Try.prog 40 #[.pointer (some ⟨bl, 0, none⟩), .int .i64 o.i] W fun e w' => e = .returned (.int .i64 (cutE g cs o.i)) ∧ Hid (LogAt w' bl bl (cutF g o.i) m (cutC g cs o.i) ∧ RefAt w' br br g m L ∧ Below w.heap.size w w') ∧ w'.heap[wr.heap.size]? = some (.cells #[.int .i64 o.kind, .int .i64 o.i, .string o.v] 41 (0, 0))) := by
            intro W hW
            refine (cut_ty W _ _ _ _ _ o.i (HLb.out.below hW) hF.out (by have := hW.size; have := HBL.out; omega)).mono ?_
            rintro e w' ⟨h1, h2, h3, h4⟩
            exact ⟨h1, ⟨h2, (HRb.out.below hW).keepTy h4 (by decide) (by decide) (by decide) (by decide), (below_step HBb.out hW).trans (by rw [HBL.out] at h3; exact h3)⟩, h4 _ _ _ _ (hp_step HX.out hW) (by decide) (by decide)⟩
          have HRP : Hid (∀ W, Hid (LogAt W bl bl (cutF g o.i) m (cutC g cs o.i) ∧ RefAt W br br g m L ∧ Below w.heap.size w W) → W.heap[wr.heap.size]? = some (.cells #[.int .i64 o.kind, .int .i64 o.i, .string o.v] 41 (0, 0)) → Calls Try.prog 41 #[.pointer (some ⟨br, 0, none⟩), .int .i64 o.i] W fun e w' => e = .returned (.int .i64 (cutE g cs o.i)) ∧ Hid (LogAt w' bl bl (cutF g o.i) m (cutC g cs o.i) ∧ RefAt w' br br (cutF g o.i) m (if cutI g o.i then L else cutL L o.i) ∧ Below w.heap.size w w') ∧ w'.heap[wr.heap.size]? = some (.cells #[.int .i64 o.kind, .int .i64 o.i, .string o.v] 41 (0, 0))) := by
            intro W hW hbx
            obtain ⟨h1, h2, h3⟩ := hW.out
            refine (rcut_ty W br br g m L o.i h2 (rfit hRel.out hF.out) (by obtain ⟨_, _, _, hx, _⟩ := h2; exact Nat.le_of_lt (blk3 hx).2.2.2.2.2.2)).mono ?_
            rintro e w' ⟨q1, q2, q3, q4⟩
            rw [cut_count hRel.out] at q1
            exact ⟨q1, ⟨h1.keepTy q4 (by decide) (by decide) (by decide) (by decide), q2, h3.trans (Below.mono q3 hlr2)⟩, q4 _ _ _ _ hbx (by decide) (by decide)⟩
          obtain ⟨q0, q1, q2, qf0, qf1, qf2, qz⟩ := blk3 hbox
          rw [hk2] at r0 q0
          rw [hk2] at hwb
          clear hk1 hbox qf0 qf1 qf2
          go_wp2_with fail
          rw [← hwb]
          clear hwb
          go_region_held3 (fun w' => w'.cell? ⟨wr.heap.size, 1, none⟩ = some (.int .i64 o.i) ∧ w'.cell? ⟨wr.heap.size, 2, none⟩ = some (.string o.v)) (first | (exact ⟨q1, q2⟩) | (exact ⟨d1, d2⟩) | (exact ⟨f1, f2⟩)) (first | (go_at_call 40; refine (HP.out _ (below_drewN (Below.refl _ _) 1)).mono ?_; rintro e w4 ⟨rfl, hS4, hbx4⟩; have d1 := (blk3 hbx4).2.1; have d2 := (blk3 hbx4).2.2.1; have HBX4 := Lib.hid hbx4; clear hbx4) | (go_at_call 41; refine (HRP.out _ hS4 HBX4.out).mono ?_; rintro e w5 ⟨rfl, hS5, hbx5⟩; have f1 := (blk3 hbx5).2.1; have f2 := (blk3 hbx5).2.2.1; clear hbx5))
          all_goals
            obtain ⟨x1, x2, x3⟩ := hS5.out
            have X1 := Lib.hid x1
            have X2 := Lib.hid x2
            have X3 := Lib.hid x3
            clear x1 x2 x3
            go_wp2_with fail
            refine (HAG.out _ _ _ _ X1.out X2.out (cut_fit hF.out o.i) (cut_rel hRel.out o.i)).mono ?_; rintro e w6 ⟨rfl, hb6⟩
            have B6 := Lib.hid hb6
            clear hb6
            go_wp2_with fail
            go_roundw
            case rel => exact ⟨k + 1, _, _, _, by omega, rfl, X1.out.below B6.out, X2.out.below B6.out, (cut_fit hF.out o.i), (cut_rel hRel.out o.i), below_step X3.out B6.out⟩
            case measure => simp [intOf]; omega
        · have HP : Hid (∀ W, Below wb.heap.size wb W → Calls Try.prog 42 #[.pointer (some ⟨bl, 0, none⟩), .int .i64 o.i, .string o.v] W fun e w' => e = .returned (.int .i64 (putE g m o.i)) ∧ Hid (LogAt w' bl bl g m (putC g m cs o.i o.v) ∧ RefAt w' br br g m L ∧ Below w.heap.size w w') ∧ w'.heap[wr.heap.size]? = some (.cells #[.int .i64 o.kind, .int .i64 o.i, .string o.v] 41 (0, 0))) := by
            intro W hW
            refine (put_ty W _ _ _ _ _ o.i o.v (HLb.out.below hW) hF.out (by have := hW.size; have := HBL.out; omega) hi1 hi2).mono ?_
            rintro e w' ⟨h1, h2, h3, h4⟩
            exact ⟨h1, ⟨h2, (HRb.out.below hW).keepTy h4 (by decide) (by decide) (by decide) (by decide), (below_step HBb.out hW).trans (by rw [HBL.out] at h3; exact h3)⟩, h4 _ _ _ _ (hp_step HX.out hW) (by decide) (by decide)⟩
          have HRP : Hid (∀ W, Hid (LogAt W bl bl g m (putC g m cs o.i o.v) ∧ RefAt W br br g m L ∧ Below w.heap.size w W) → W.heap[wr.heap.size]? = some (.cells #[.int .i64 o.kind, .int .i64 o.i, .string o.v] 41 (0, 0)) → Calls Try.prog 43 #[.pointer (some ⟨br, 0, none⟩), .int .i64 o.i, .string o.v] W fun e w' => e = .returned (.int .i64 (putE g m o.i)) ∧ Hid (LogAt w' bl bl g m (putC g m cs o.i o.v) ∧ RefAt w' br br g m (if o.i < g ∨ m ≤ o.i - g then L else putL L o.i o.v) ∧ Below w.heap.size w w') ∧ w'.heap[wr.heap.size]? = some (.cells #[.int .i64 o.kind, .int .i64 o.i, .string o.v] 41 (0, 0))) := by
            intro W hW hbx
            obtain ⟨h1, h2, h3⟩ := hW.out
            refine (rput_ty W br br g m L o.i o.v h2 (rfit hRel.out hF.out) (by obtain ⟨_, _, _, hx, _⟩ := h2; exact Nat.le_of_lt (blk3 hx).2.2.2.2.2.2) hi1 hi2).mono ?_
            rintro e w' ⟨q1, q2, q3, q4⟩
            exact ⟨q1, ⟨h1.keepTy q4 (by decide) (by decide) (by decide) (by decide), q2, h3.trans (Below.mono q3 hlr2)⟩, q4 _ _ _ _ hbx (by decide) (by decide)⟩
          obtain ⟨q0, q1, q2, qf0, qf1, qf2, qz⟩ := blk3 hbox
          have e1 : (o.kind == 1) = false := by simpa using hk1
          have e2 : (o.kind == 2) = false := by simpa using hk2
          clear hbox qf0 qf1 qf2
          go_wp2_with fail
          rw [← hwb]
          clear hwb r0 r1 r2 hi1 hi2 e1 e2 hk1 hk2 q0 hgz
          go_region_held3 (fun w' => w'.cell? ⟨wr.heap.size, 1, none⟩ = some (.int .i64 o.i) ∧ w'.cell? ⟨wr.heap.size, 2, none⟩ = some (.string o.v)) (first | (exact ⟨q1, q2⟩) | (exact ⟨d1, d2⟩) | (exact ⟨f1, f2⟩)) (first | (go_at_call 42; refine (HP.out _ (below_drewN (Below.refl _ _) 1)).mono ?_; rintro e w4 ⟨rfl, hS4, hbx4⟩; have d1 := (blk3 hbx4).2.1; have d2 := (blk3 hbx4).2.2.1; have HBX4 := Lib.hid hbx4; clear hbx4) | (go_at_call 43; refine (HRP.out _ hS4 HBX4.out).mono ?_; rintro e w5 ⟨rfl, hS5, hbx5⟩; have f1 := (blk3 hbx5).2.1; have f2 := (blk3 hbx5).2.2.1; clear hbx5))
          all_goals
            obtain ⟨x1, x2, x3⟩ := hS5.out
            have X1 := Lib.hid x1
            have X2 := Lib.hid x2
            have X3 := Lib.hid x3
            clear x1 x2 x3
            go_wp2_with fail
            refine (HAG.out _ _ _ _ X1.out X2.out (put_fit hF.out o.i o.v) (put_rel' hRel.out hF.out o.i o.v)).mono ?_; rintro e w6 ⟨rfl, hb6⟩
            have B6 := Lib.hid hb6
            clear hb6
            go_wp2_with fail
            go_roundw
            case rel => exact ⟨k + 1, _, _, _, by omega, rfl, X1.out.below B6.out, X2.out.below B6.out, (put_fit hF.out o.i o.v), (put_rel' hRel.out hF.out o.i o.v), below_step X3.out B6.out⟩
            case measure => simp [intOf]; omega
    · obtain rfl : k = l.length := by omega
      go_wp2_with fail
      go_ret
      exact ⟨rfl, hB.out⟩

theorem lawWalk {H : Type} (enc : TypeId × Value → H) : LawWalk enc Try.prog 6 Try.f6 (fun _ => True) := by
  intro W base args ds p hval hA hsz _
  rw [Try.params6] at hA hval
  obtain ⟨v0, vs0, d0, ds0, p0, q0, hargs, rfl, rfl, h0, r0⟩ := trodAll_cons hA
  obtain ⟨v1, vs1, d1, ds1, p1, q1, rfl, rfl, rfl, h1, r1⟩ := trodAll_cons r0
  obtain ⟨v2, vs2, d2, ds2, p2, q2, rfl, rfl, rfl, h2, r2⟩ := trodAll_cons r1
  obtain ⟨rfl, rfl, rfl⟩ := trodAll_nil r2
  obtain rfl : args = #[v0, v1, v2] := by cases args; simp_all
  obtain ⟨f0, rfl, rfl, rfl, w0⟩ := open_int Try.underlying3 (hval 0 3 v0 rfl rfl) h0
  obtain ⟨m0, rfl, rfl, rfl, w1⟩ := open_int Try.underlying3 (hval 1 3 v1 rfl rfl) h1
  obtain ⟨a, l, cap, es, sp, rfl, hlc, hcm, hn, hat, hd, hel, hsp, hgood⟩ := open_slice_gen 3 ocells (fun o _ => o.ok) Try.underlying22 (by kernel_rfl) (by omega) (fun n cs y _ h => elem_op n cs y h) (hval 2 22 v2 rfl rfl) h2
  exact plays_ok W f0 m0 a l cap  (by unfold maxLen at hcm; omega) hat (fun k hk => hgood k hk (by omega))

theorem own : ownKnob Try.prog.godebug = none := by kernel_rfl
theorem laidOut : laidOutB Try.prog = true := by kernel_rfl

set_option maxRecDepth 100000 in
theorem lifted (os : Os) (started : os.Started) (H : Type) (enc : TypeId × Value → H) :
    ReturnsInHanded {} Try.checked os 6 .any (Rows.slotsPlaysSpec.pre6 enc Try.prog Try.f6 Rows.slotsPlaysRow.domain false) (Rows.slotsPlaysSpec.post enc Try.prog Try.f6 false true false false) := by
  refine returnsInHanded_of_change_sized (C := Try.checked) own started (by kernel_rfl) Try.func6
    (ChangeSpec.witness6 (enc := enc) (C := Try.checked) false ⟨#[], #[.int .i64 0, .int .i64 0, .slice none 0 0], []⟩ 8 (by kernel_rfl) (by kernel_rfl) (by kernel_rfl) (by kernel_rfl)) ?_
  intro W base args ds gs before hval hW hcnd hsz _
  exact law_post (C := Try.checked) laidOut (fun ds h => by match ds, h with | [_, _, _], _ => rfl) 4 rfl Try.underlying4 rfl (by kernel_rfl) hval hW hsz trivial (lawWalk enc)

theorem proved : Rows.SlotsPlaysSaid :=
  OpenClaim.holds_of_wide 6 Try.f6 rfl rfl rfl rfl rfl rfl rfl ⟨rfl, rfl, rfl, rfl, rfl⟩ rfl rfl rfl rfl rfl (by kernel_rfl) Try.func6 (by kernel_rfl)
    (of_decide_eq_true (by kernel_rfl)) (by unfold Func.isWrapper; first | (rw [if_pos (by decide +kernel)]; kernel_rfl) | (rw [if_neg (by decide +kernel)]; exact ⟨rfl, rfl⟩))
    (fun os started H enc _ => lifted os started H enc)
#print axioms proved
end Go.Proofs.Ytpnkohjppbgiaaa.slotsPlays
