/-
  The statement SlotsParts: All and Holes are together the places; Run is All's beginning.
-/
import Derived.Test.YtpnkohjppbgiaaaLogHI
import Derived.Test.YtpnkohjppbgiaaaSlotR
import Derived.Test.YtpnkohjppbgiaaaSlotAw
import Derived.Test.YtpnkohjppbgiaaaChecked
import Derived.Test.YtpnkohjppbgiaaaRows
namespace Go.Proofs.Ytpnkohjppbgiaaa.slotsParts
open Go.ChangeShapes Go.WideShapes Go.ChangeAt Go.RowKit Go.Joins
open Go.Proofs.Ytpnkohjppbgiaaa.kit Go.Proofs.Ytpnkohjppbgiaaa.logi Go.Proofs.Ytpnkohjppbgiaaa.slotr Go.Proofs.Ytpnkohjppbgiaaa.slotaw
set_option linter.unusedVariables false
set_option linter.unusedSimpArgs false
set_option maxHeartbeats 1000000
set_option maxRecDepth 100000

theorem held_ne (x y : Int) (w : World) : (binOp .neq 69 (.agg #[.int .i64 x, .int .i64 y]) (.agg #[.int .i64 x, .int .i64 y])).run Try.prog w = .ok (.bool false) w := by go_simp

theorem parts_ok (w : World) (f0 m0 : Int) (a : Option Addr) (l : List OpV) (cap : Nat) (hl : l.length ≤ 9223372036854775807) (hat : RowsAt w a 3 (l.map ocells)) (hok : ∀ k (hk : k < l.length), (l[k]).ok) :
    Calls Try.prog 7 #[.int .i64 f0, .int .i64 m0, .slice a l.length cap] w fun e w' => e = .returned (.bool true) ∧ Below w.heap.size w w' := by
  have hR := ran_ok w f0 m0 a l cap hl hat hok
  obtain ⟨b, hb0⟩ : ∃ b, b = w.heap.size := ⟨_, rfl⟩
  obtain ⟨s, hs⟩ : ∃ s, s = stOf (min (max f0 1) 1099511627776) (min (max m0 1) 1024) l := ⟨_, rfl⟩
  obtain ⟨m, hm⟩ : ∃ m, m = min (max m0 1) 1024 := ⟨_, rfl⟩
  rw [← hs, ← hm, ← hb0] at hR
  rw [← hb0]
  obtain ⟨f, cs⟩ := s
  dsimp only at hR
  have HR := Lib.hid hR
  have hbw : b ≤ w.heap.size := by omega
  clear hR hs hat hok hb0 hm
  go_enter Try.func7, Try.ntmps7
  go_wp2_with fail
  refine HR.out.mono ?_; rintro e w1 ⟨rfl, hL1, hF, hb1⟩
  have HL1 := Lib.hid hL1
  have hf1 := hF.f1; have hf2 := hF.f2; have hlm := hF.len; have hm2 := hF.m2
  have hl1024 : cs.length ≤ 1024 := by omega
  have HF := Lib.hid hF
  have HB1 := Lib.hid hb1
  clear hL1 hF hb1 hlm hm2
  go_wp2_with fail
  refine (awake_ok w1).mono ?_; rintro e w2 ⟨rfl, hb2⟩
  have HL2 := Lib.hid (HL1.out.below hb2)
  have HB2 := Lib.hid (HB1.out.trans (Below.mono hb2 (Nat.le_trans hbw HB1.out.size)))
  clear hb2
  go_wp2_with fail
  refine (told_ok w2 _ _ _ _ _ HL2.out HF.out).mono ?_; rintro e w3 ⟨v0, v1, v2, rfl, hb3, ho0, ho1, ho2⟩
  have HL3 := Lib.hid (HL2.out.below hb3)
  have HB3 := Lib.hid (HB2.out.trans (Below.mono hb3 (Nat.le_trans hbw HB2.out.size)))
  obtain ⟨a0, c0, rfl⟩ := own_shape ho0
  obtain ⟨a1, c1, rfl⟩ := own_shape ho1
  obtain ⟨a2, c2, rfl⟩ := own_shape ho2
  have hbl := both_len f cs
  have hrl := runF_full f cs
  have hrp := (runF_pre f cs).length_le
  have hnl := nextN_le cs
  have HAS := Lib.hid (fun k hk => allF_snoc f cs k hk)
  have HHS := Lib.hid (fun k hk => holesF_snoc f cs k hk)
  have HAL := Lib.hid (fun k hk hc => allF_lt f cs k hk hc)
  have HHL := Lib.hid (fun k hk hc => holesF_lt f cs k hk hc)
  have HAA := Lib.hid (fun k hk hc hj => allF_at f cs k hk hc hj)
  have HHA := Lib.hid (fun k hk hc hj => holesF_at f cs k hk hc hj)
  have HRA := Lib.hid (fun k hk hk2 => runF_at f cs k hk hk2)
  have HLen : Hid (∀ W, Below w3.heap.size w3 W → Calls Try.prog 12 #[.pointer (some ⟨b, 0, none⟩)] W fun e w' => e = .returned (.int .i64 ((allF f cs).length : Nat)) ∧ Below W.heap.size W w') := fun W hW => len_ok W _ _ _ _ _ (HL3.out.below hW) HF.out
  have HTop : Hid (∀ W, Below w3.heap.size w3 W → Calls Try.prog 45 #[.pointer (some ⟨b, 0, none⟩)] W fun e w' => e = .returned (.int .i64 (f + cs.length)) ∧ Below W.heap.size W w') := fun W hW => top_ok W _ _ _ _ _ (HL3.out.below hW) HF.out
  have HFst : Hid (∀ W, Below w3.heap.size w3 W → Calls Try.prog 11 #[.pointer (some ⟨b, 0, none⟩)] W fun e w' => e = .returned (.int .i64 f) ∧ W = w') := fun W hW => first_ok W _ _ _ _ _ (HL3.out.below hW)
  have HNxt : Hid (∀ W, Below w3.heap.size w3 W → Calls Try.prog 16 #[.pointer (some ⟨b, 0, none⟩)] W fun e w' => e = .returned (.int .i64 (f + nextN cs)) ∧ Below W.heap.size W w') := fun W hW => next_ok W _ _ _ _ _ (HL3.out.below hW) HF.out
  have HGet : Hid (∀ W, Below w3.heap.size w3 W → ∀ k (hk : k < cs.length), Calls Try.prog 13 #[.pointer (some ⟨b, 0, none⟩), .int .i64 (f + k)] W fun e w' => e = .returned (.tuple #[.int .i64 (cs[k]).1, .bool (cs[k]).2]) ∧ Below W.heap.size W w') := by
    intro W hW k hk
    have h := get_ok W _ _ _ _ _ (f + k) (HL3.out.below hW) HF.out (by omega) (by omega)
    have e : logi.look f cs (f + k) = cs[k] := by
      unfold logi.look
      rw [if_neg (by omega), show (f + (k : Int) - f).toNat = k by omega, List.getElem?_eq_getElem hk]; rfl
    rwa [e] at h
  generalize hLA : allF f cs = LA at *
  generalize hLR : runF f cs = LR at *
  generalize hLH : holesF f cs = LH at *
  have HO0 := Lib.hid (fun W (hW : Below w3.heap.size w3 W) k hk => own_held (own_below ho0 hW) k hk)
  have HO1 := Lib.hid (fun W (hW : Below w3.heap.size w3 W) k hk => own_held (own_below ho1 hW) k hk)
  have HO2 := Lib.hid (fun W (hW : Below w3.heap.size w3 W) k hk => own_nums (own_below ho2 hW) k hk)
  clear ho0 ho1 ho2 hb3 hLA hLR hLH
  have e1 : IntKind.i64.wrap ((LA.length : Int) + (LH.length : Int)) = (cs.length : Int) := by rw [IntWalk.i64_in _ (by omega)]; omega
  have e2 : IntKind.i64.wrap (f + (cs.length : Int) - f) = (cs.length : Int) := by rw [IntWalk.i64_in _ (by omega)]; omega
  have e3 : IntKind.i64.wrap (f + (nextN cs : Int) - f) = (LR.length : Int) := by rw [IntWalk.i64_in _ (by omega)]; omega
  have e4 : ¬ (LA.length < LR.length) := by omega
  have e5 : (LR.length : Int) ≤ (LA.length : Int) := by omega
  go_wp2_with fail
  refine (HLen.out _ (Below.refl _ _)).mono ?_; rintro e w4 ⟨rfl, hb4⟩
  have B4 := Lib.hid hb4
  clear hb4
  go_wp2_with fail
  refine (HTop.out _ B4.out).mono ?_; rintro e w5 ⟨rfl, hb5⟩
  have B5 := Lib.hid (below_step B4.out hb5)
  clear hb5
  go_wp2_with fail
  refine (HFst.out _ B5.out).mono ?_; rintro e w6 ⟨rfl, rfl⟩
  go_wp2_with fail
  refine (HNxt.out _ B5.out).mono ?_; rintro e w6 ⟨rfl, hb6⟩
  have B6 := Lib.hid (below_step B5.out hb6)
  clear hb6
  go_wp2_with fail
  refine (HFst.out _ B6.out).mono ?_; rintro e w7 ⟨rfl, rfl⟩
  go_wp2_with fail
  refine (HFst.out _ B6.out).mono ?_; rintro e w7 ⟨rfl, rfl⟩
  go_wp2_with fail
  go_loopw [12, 13, 14] (fun i h at' wr => ∃ k ii jj : Nat, k ≤ cs.length ∧ Hid (ii = (allF f (cs.take k)).length) ∧ Hid (jj = (holesF f (cs.take k)).length) ∧ at' = .int .i64 (f + k) ∧ i = .int .i64 ii ∧ h = .int .i64 jj ∧ Hid (Below w3.heap.size w3 wr)) (fun _ _ at' _ => (f + cs.length - intOf at').toNat)
  case atStart => exact ⟨0, 0, 0, Nat.zero_le _, rfl, rfl, by simp, rfl, rfl, B6⟩
  case round =>
    obtain ⟨k, ii, jj, hk, hii, hjj, rfl, rfl, rfl, hb⟩ := hrel
    have HTr := Lib.hid (HTop.out _ hb.out)
    by_cases hlt : k < cs.length
    · have HGr := Lib.hid (fun W hW => HGet.out W hW k hlt)
      have hw1 : IntKind.i64.wrap (f + (k : Int) + 1) = f + (k + 1 : Nat) := by rw [IntWalk.i64_in _ (by omega)]; omega
      have n0 : (0 : Int) ≤ (ii : Int) := by omega
      have n1 : (0 : Int) ≤ (jj : Int) := by omega
      cases hc : (cs[k]).2 with
      | true =>
        have h1 : ii < LA.length := by rw [hii.out]; exact HAL.out k hlt hc
        have h2 : LA[ii] = (f + k, (cs[k]).1) := by have e := hii.out; subst e; exact HAA.out k hlt hc _
        have HSA : Hid (ii + 1 = (allF f (cs.take (k + 1))).length) := by have e := hii.out; rw [HAS.out k hlt, hc, List.length_append, ← e]; rfl
        have HSH : Hid (jj = (holesF f (cs.take (k + 1))).length) := by have e := hjj.out; rw [HHS.out k hlt, hc, List.length_append, ← e]; rfl
        have hwi : IntKind.i64.wrap ((ii : Int) + 1) = ((ii + 1 : Nat) : Int) := by rw [IntWalk.i64_in _ (by omega)]; rfl
        have H2 := Lib.hid h2
        have HC := Lib.hid hc
        clear h2 hc
        go_wp2_with fail
        refine HTr.out.mono ?_; rintro e wa ⟨rfl, hba⟩
        have Ba := Lib.hid (below_step hb.out hba)
        clear hba
        go_wp2_with fail
        refine (HGr.out _ Ba.out).mono ?_; rintro e wb ⟨rfl, hbb⟩
        have Bb := Lib.hid (below_step Ba.out hbb)
        clear hbb
        rw [HC.out]
        obtain ⟨g, rfl, hgz, r0, r1⟩ := HO0.out wb Bb.out ii h1
        rw [H2.out] at r0 r1
        dsimp only at r0 r1
        go_wp2_with fail
        go_roundw
        case rel => exact ⟨k + 1, ii + 1, jj, by omega, HSA, HSH, by congr 1, rfl, rfl, Bb⟩
        case measure => simp [intOf]; omega
      | false =>
        have h1 : jj < LH.length := by rw [hjj.out]; exact HHL.out k hlt hc
        have h2 : LH[jj] = f + k := by have e := hjj.out; subst e; exact HHA.out k hlt hc _
        have HSA : Hid (ii = (allF f (cs.take (k + 1))).length) := by have e := hii.out; rw [HAS.out k hlt, hc, List.length_append, ← e]; rfl
        have HSH : Hid (jj + 1 = (holesF f (cs.take (k + 1))).length) := by have e := hjj.out; rw [HHS.out k hlt, hc, List.length_append, ← e]; rfl
        have hwi : IntKind.i64.wrap ((jj : Int) + 1) = ((jj + 1 : Nat) : Int) := by rw [IntWalk.i64_in _ (by omega)]; rfl
        have H2 := Lib.hid h2
        have HC := Lib.hid hc
        clear h2 hc
        go_wp2_with fail
        refine HTr.out.mono ?_; rintro e wa ⟨rfl, hba⟩
        have Ba := Lib.hid (below_step hb.out hba)
        clear hba
        go_wp2_with fail
        refine (HGr.out _ Ba.out).mono ?_; rintro e wb ⟨rfl, hbb⟩
        have Bb := Lib.hid (below_step Ba.out hbb)
        clear hbb
        rw [HC.out]
        obtain ⟨g, rfl, hgz, r0⟩ := HO2.out wb Bb.out jj h1
        rw [H2.out] at r0
        go_wp2_with fail
        go_roundw
        case rel => exact ⟨k + 1, ii, jj + 1, by omega, HSA, HSH, by congr 1, rfl, rfl, Bb⟩
        case measure => simp [intOf]; omega
    · obtain rfl : k = cs.length := by omega
      go_wp2_with fail
      refine HTr.out.mono ?_; rintro e wa ⟨rfl, hba⟩
      have Ba := Lib.hid (below_step hb.out hba)
      clear hba
      go_wp2_with fail
      clear HTr hii hjj hlt
      go_loopw [17] (fun i wr => ∃ k : Nat, k ≤ nextN cs ∧ i = .int .i64 k ∧ Hid (Below w3.heap.size w3 wr)) (fun i _ => nextN cs - (intOf i).toNat)
      case atStart => exact ⟨0, Nat.zero_le _, rfl, Ba⟩
      case round =>
        obtain ⟨k, hk2, rfl, hb2⟩ := hrel
        by_cases hlt : k < nextN cs
        · obtain ⟨v, h1, h2⟩ := HRA.out k (by omega) (by omega)
          have hk3 : k < LR.length := by omega
          have hk4 : k < LA.length := by omega
          obtain ⟨g, rfl, hgz, r0, r1⟩ := HO1.out _ hb2.out k hk3
          obtain ⟨g2, rfl, hgz2, s0, s1⟩ := HO0.out _ hb2.out k hk4
          rw [h1] at r0 r1
          rw [h2] at s0 s1
          dsimp only at r0 r1 s0 s1
          have hne := held_ne (f + k) v
          have hfst : ∀ n, Calls Try.prog 11 #[.pointer (some ⟨b, 0, none⟩)] (wr.drewN n) fun e w' => e = .returned (.int .i64 f) ∧ w' = wr.drewN n := fun n => (HFst.out _ (below_drewN hb2.out n)).mono fun e w' ⟨h1, h2⟩ => ⟨h1, h2.symm⟩
          have hw2 : IntKind.i64.wrap (f + (k : Int)) = f + k := IntWalk.i64_in _ (by omega)
          have hw3 : IntKind.i64.wrap ((k : Int) + 1) = ((k + 1 : Nat) : Int) := by rw [IntWalk.i64_in _ (by omega)]; rfl
          have n0 : (0 : Int) ≤ (k : Int) := by omega
          have n1 : (k : Int) < (LA.length : Int) := by omega
          clear h1 h2 hk2
          go_wp2_with fail
          go_quiet (first | (go_at_call 11; exact Calls.quiet_of_same (hfst _)))
          go_wp2_with fail
          go_roundw
          case rel => exact ⟨k + 1, by omega, rfl, below_drewN hb2.out _⟩
          case measure => simp [intOf]; omega
        · obtain rfl : k = nextN cs := by omega
          go_wp2_with fail
          go_ret
          exact ⟨rfl, HB3.out.trans (Below.mono hb2.out (Nat.le_trans hbw HB3.out.size))⟩

theorem lawWalk {H : Type} (enc : TypeId × Value → H) : LawWalk enc Try.prog 7 Try.f7 (fun _ => True) := by
  intro W base args ds p hval hA hsz _
  rw [Try.params7] at hA hval
  obtain ⟨v0, vs0, d0, ds0, p0, q0, hargs, rfl, rfl, h0, r0⟩ := trodAll_cons hA
  obtain ⟨v1, vs1, d1, ds1, p1, q1, rfl, rfl, rfl, h1, r1⟩ := trodAll_cons r0
  obtain ⟨v2, vs2, d2, ds2, p2, q2, rfl, rfl, rfl, h2, r2⟩ := trodAll_cons r1
  obtain ⟨rfl, rfl, rfl⟩ := trodAll_nil r2
  obtain rfl : args = #[v0, v1, v2] := by cases args; simp_all
  obtain ⟨f0, rfl, rfl, rfl, w0⟩ := open_int Try.underlying3 (hval 0 3 v0 rfl rfl) h0
  obtain ⟨m0, rfl, rfl, rfl, w1⟩ := open_int Try.underlying3 (hval 1 3 v1 rfl rfl) h1
  obtain ⟨a, l, cap, es, sp, rfl, hlc, hcm, hn, hat, hd, hel, hsp, hgood⟩ := open_slice_gen 3 ocells (fun o _ => o.ok) Try.underlying22 (by kernel_rfl) (by omega) (fun n cs y _ h => elem_op n cs y h) (hval 2 22 v2 rfl rfl) h2
  exact parts_ok W f0 m0 a l cap  (by unfold maxLen at hcm; omega) hat (fun k hk => hgood k hk (by omega))

theorem own : ownKnob Try.prog.godebug = none := by kernel_rfl
theorem laidOut : laidOutB Try.prog = true := by kernel_rfl

set_option maxRecDepth 100000 in
theorem lifted (os : Os) (started : os.Started) (H : Type) (enc : TypeId × Value → H) :
    ReturnsInHanded {} Try.checked os 7 .any (Rows.slotsPartsSpec.pre6 enc Try.prog Try.f7 Rows.slotsPartsRow.domain false) (Rows.slotsPartsSpec.post enc Try.prog Try.f7 false true false false) := by
  refine returnsInHanded_of_change_sized (C := Try.checked) own started (by kernel_rfl) Try.func7
    (ChangeSpec.witness6 (enc := enc) (C := Try.checked) false ⟨#[], #[.int .i64 0, .int .i64 0, .slice none 0 0], []⟩ 8 (by kernel_rfl) (by kernel_rfl) (by kernel_rfl) (by kernel_rfl)) ?_
  intro W base args ds gs before hval hW hcnd hsz _
  exact law_post (C := Try.checked) laidOut (fun ds h => by match ds, h with | [_, _, _], _ => rfl) 4 rfl Try.underlying4 rfl (by kernel_rfl) hval hW hsz trivial (lawWalk enc)

theorem proved : Rows.SlotsPartsSaid :=
  OpenClaim.holds_of_wide 7 Try.f7 rfl rfl rfl rfl rfl rfl rfl ⟨rfl, rfl, rfl, rfl, rfl⟩ rfl rfl rfl rfl rfl (by kernel_rfl) Try.func7 (by kernel_rfl)
    (of_decide_eq_true (by kernel_rfl)) (by unfold Func.isWrapper; first | (rw [if_pos (by decide +kernel)]; kernel_rfl) | (rw [if_neg (by decide +kernel)]; exact ⟨rfl, rfl⟩))
    (fun os started H enc _ => lifted os started H enc)
#print axioms proved
end Go.Proofs.Ytpnkohjppbgiaaa.slotsParts
