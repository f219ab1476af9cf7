/-
  The statement SlotsWindow: which places are taken; what is put is there; Cut moves on alone.
-/
import Derived.Test.YtpnkohjppbgiaaaSlotR
import Derived.Test.YtpnkohjppbgiaaaSlotAw
import Derived.Test.YtpnkohjppbgiaaaChecked
import Derived.Test.YtpnkohjppbgiaaaRows
namespace Go.Proofs.Ytpnkohjppbgiaaa.slotsWindow
open Go.ChangeShapes Go.WideShapes Go.ChangeAt Go.RowKit Go.Joins
open Go.Proofs.Ytpnkohjppbgiaaa.kit Go.Proofs.Ytpnkohjppbgiaaa.logi Go.Proofs.Ytpnkohjppbgiaaa.slotr Go.Proofs.Ytpnkohjppbgiaaa.slotaw
set_option linter.unusedVariables false
set_option linter.unusedSimpArgs false
set_option maxHeartbeats 1000000
set_option maxRecDepth 100000

theorem allF_gone (i : Int) (cs : List (Int × Bool)) : (allF i cs).length = gone cs := by
  induction cs generalizing i with
  | nil => rfl
  | cons c cs ih =>
    have := ih (i + 1)
    simp only [allF, gone] at this ⊢
    cases hc : c.2 <;> simp [hc, this]
theorem gone_append (a b : List (Int × Bool)) : gone (a ++ b) = gone a + gone b := by simp [gone]
theorem gone_none (n : Nat) : gone (List.replicate n ((0 : Int), false)) = 0 := by simp [gone]
theorem gone_le (cs : List (Int × Bool)) : gone cs ≤ cs.length := List.length_filter_le _ _
theorem gone_pad (cs : List (Int × Bool)) (n : Nat) : gone (padL cs n) = gone cs := by rw [padL, gone_append, gone_none]; rfl
theorem gone_set (cs : List (Int × Bool)) (k : Nat) (v : Int) (hk : k < cs.length) : gone (cs.set k (v, true)) + (if (cs[k]).2 then 1 else 0) = gone cs + 1 := by
  induction cs generalizing k with
  | nil => simp at hk
  | cons c cs ih =>
    cases k with
    | zero =>
      simp only [List.set_cons_zero, List.getElem_cons_zero, gone]
      obtain ⟨x, y⟩ := c
      cases y <;> simp
    | succ k =>
      have := ih k (by simpa using hk)
      simp only [List.set_cons_succ, List.getElem_cons_succ, gone] at this ⊢
      obtain ⟨x, y⟩ := c
      cases y <;> simp only [List.filter_cons, if_true, if_false, Bool.false_eq_true, List.length_cons] <;> omega
theorem pad_look (f : Int) (cs : List (Int × Bool)) (k n : Nat) (hk : k < (padL cs n).length) : (padL cs n)[k] = logi.look f cs (f + k) := by
  have e : (f + (k : Int) - f).toNat = k := by omega
  rw [logi.look, if_neg (by omega), e]
  simp only [padL]
  by_cases h : k < cs.length
  · rw [List.getElem_append_left h, List.getElem?_eq_getElem h]; rfl
  · rw [List.getElem_append_right (by omega), List.getElem?_eq_none (by omega)]; simp
/-- What Put turns. -/
theorem put_look (f m : Int) (cs : List (Int × Bool)) (i v : Int) (h1 : f ≤ i) (h2 : i - f < m) : logi.look f (putC f m cs i v) i = (v, true) := by
  rw [putC, if_neg (by omega)]
  unfold logi.look
  rw [if_neg (by omega), List.getElem?_eq_getElem (by rw [List.length_set, padL_len]; omega), List.getElem_set_self]
  rfl
theorem put_gone (f m : Int) (cs : List (Int × Bool)) (i v : Int) (h1 : f ≤ i) (h2 : i - f < m) : gone (putC f m cs i v) + (if (logi.look f cs i).2 then 1 else 0) = gone cs + 1 := by
  have hl : (i - f).toNat < (padL cs ((i - f).toNat + 1)).length := by rw [padL_len]; omega
  have := gone_set (padL cs ((i - f).toNat + 1)) (i - f).toNat v hl
  rw [pad_look f, gone_pad] at this
  have e : f + ((i - f).toNat : Int) = i := by omega
  rw [e] at this
  rw [putC, if_neg (by omega)]
  exact this
theorem look_low (f : Int) (cs : List (Int × Bool)) (i : Int) (h : i < f) : logi.look f cs i = ((0 : Int), false) := by rw [logi.look, if_pos h]
theorem look_far (f m : Int) (cs : List (Int × Bool)) (i : Int) (hF : Fit f m cs) (h : m ≤ i - f) : logi.look f cs i = ((0 : Int), false) := by
  have := hF.len; have := hF.m1
  rw [logi.look, if_neg (by omega), List.getElem?_eq_none (by omega)]; rfl

theorem window_ok (w : World) (f0 m0 : Int) (a : Option Addr) (l : List OpV) (cap : Nat) (i cut : Int) (hl : l.length ≤ 9223372036854775807) (hat : RowsAt w a 3 (l.map ocells)) (hok : ∀ k (hk : k < l.length), (l[k]).ok)
    (hi1 : -9223372036854775808 ≤ i) (hi2 : i ≤ 9223372036854775807) :
    Calls Try.prog 3 #[.int .i64 f0, .int .i64 m0, .slice a l.length cap, .int .i64 i, .int .i64 cut] w fun e w' => e = .returned (.bool true) ∧ Below w.heap.size w w' := by
  have hR := ran_ok w f0 m0 a l cap hl hat hok
  obtain ⟨b, hb0⟩ : ∃ b, b = w.heap.size := ⟨_, rfl⟩
  obtain ⟨s, hs⟩ : ∃ s, s = stOf (min (max f0 1) 1099511627776) (min (max m0 1) 1024) l := ⟨_, rfl⟩
  obtain ⟨m, hm⟩ : ∃ m, m = min (max m0 1) 1024 := ⟨_, rfl⟩
  rw [← hs, ← hm, ← hb0] at hR
  rw [← hb0]
  obtain ⟨f, cs⟩ := s
  dsimp only at hR
  have HR := Lib.hid hR
  clear hR hs hat hok
  have hbw : b ≤ w.heap.size := by omega
  have HM := Lib.hid hm
  obtain ⟨q, hq⟩ : ∃ q, (if 1024 < m0 then (1024 : Int) else m0) = q := ⟨_, rfl⟩
  have hq2 : (if 1 < q then q else (1 : Int)) = m := by rw [hm, ← hq]; split <;> split <;> omega
  clear hb0 hm
  go_enter Try.func3, Try.ntmps3
  go_wp2_with fail
  refine HR.out.mono ?_; rintro e w1 ⟨rfl, hL1, hF, hb1⟩
  have HL1 := Lib.hid hL1
  have hf1 := hF.f1; have hf2 := hF.f2; have hm1 := hF.m1; have hm2 := hF.m2
  have HF := Lib.hid hF
  have HB1 := Lib.hid hb1
  clear hL1 hF hb1
  go_wp2_with fail
  refine (awake_ok w1).mono ?_; rintro e w2 ⟨rfl, hb2⟩
  have HL2 := Lib.hid (HL1.out.below hb2)
  have HB2 := Lib.hid (HB1.out.trans (Below.mono hb2 (Nat.le_trans hbw HB1.out.size)))
  clear hb2
  go_wp2_with fail
  refine (first_ok w2 _ _ _ _ _ HL2.out).mono ?_; rintro e w3 ⟨rfl, rfl⟩
  go_wp2_with fail
  refine (len_ok w2 _ _ _ _ _ HL2.out HF.out).mono ?_; rintro e w3 ⟨rfl, hb3⟩
  have HL3 := Lib.hid (HL2.out.below hb3)
  have HB3 := Lib.hid (HB2.out.trans (Below.mono hb3 (Nat.le_trans hbw HB2.out.size)))
  clear hb3
  rw [allF_gone]
  obtain ⟨N, hN⟩ : ∃ N : Int, N = (gone cs : Nat) := ⟨_, rfl⟩
  rw [← hN]
  have hN0 : 0 ≤ N := by omega
  have hN1 : N ≤ 1024 := by have := gone_le cs; have := HF.out.len; omega
  have HN := Lib.hid hN
  clear hN
  go_wp2_with fail
  refine (get_ok w3 _ _ _ _ _ i HL3.out HF.out hi1 hi2).mono ?_; rintro e w4 ⟨rfl, hb4⟩
  have HL4 := Lib.hid (HL3.out.below hb4)
  have HB4 := Lib.hid (HB3.out.trans (Below.mono hb4 (Nat.le_trans hbw HB3.out.size)))
  clear hb4
  obtain ⟨⟨x, had⟩, hx⟩ : ∃ p, p = logi.look f cs i := ⟨_, rfl⟩
  rw [← hx]
  have HX := Lib.hid hx
  clear hx
  go_wp2_with fail
  refine (put_ok w4 _ _ _ _ _ i 77 HL4.out HF.out (Nat.le_trans hbw HB4.out.size) hi1 hi2).mono ?_; rintro e w5 ⟨rfl, hL5, hb5⟩
  have HB5 := Lib.hid (HB4.out.trans hb5)
  have hF5 := put_fit HF.out i 77
  obtain ⟨cs1, hcs1⟩ : ∃ c, c = putC f m cs i 77 := ⟨_, rfl⟩
  obtain ⟨E, hE⟩ : ∃ e, e = putE f m i := ⟨_, rfl⟩
  rw [← hcs1] at hL5 hF5
  rw [← hE]
  have HL5 := Lib.hid hL5
  have HF5 := Lib.hid hF5
  have HE := Lib.hid hE
  have HC1 := Lib.hid hcs1
  clear hL5 hF5 hb5 hE hcs1
  go_wp2_with fail
  refine (get_ok w5 _ _ _ _ _ i HL5.out HF5.out hi1 hi2).mono ?_; rintro e w6 ⟨rfl, hb6⟩
  have HL6 := Lib.hid (HL5.out.below hb6)
  have HB6 := Lib.hid (HB5.out.trans (Below.mono hb6 (Nat.le_trans hbw HB5.out.size)))
  clear hb6
  obtain ⟨⟨y, ok⟩, hy⟩ : ∃ p, p = logi.look f cs1 i := ⟨_, rfl⟩
  rw [← hy]
  have HY := Lib.hid hy
  clear hy
  obtain ⟨N1, hN1'⟩ : ∃ N : Int, N = (gone cs1 : Nat) := ⟨_, rfl⟩
  have HN1 := Lib.hid hN1'
  clear hN1'
  have HLen : Hid (∀ W, Below w6.heap.size w6 W → Calls Try.prog 12 #[.pointer (some ⟨b, 0, none⟩)] W fun e w' => e = .returned (.int .i64 N1) ∧ Below W.heap.size W w') := by
    intro W hW
    rw [HN1.out, ← allF_gone f cs1]
    exact len_ok W _ _ _ _ _ (HL6.out.below hW) HF5.out
  have hbr : (i < f ∧ E = 80 ∧ ok = false ∧ N1 = N) ∨ (f ≤ i ∧ m ≤ i - f ∧ E = 81 ∧ ok = false ∧ N1 = N) ∨ (f ≤ i ∧ i - f < m ∧ E = 0 ∧ ok = true ∧ y = 77 ∧ had = true ∧ N1 = N) ∨ (f ≤ i ∧ i - f < m ∧ E = 0 ∧ ok = true ∧ y = 77 ∧ had = false ∧ N1 = N + 1) := by
    have hE := HE.out; have hc := HC1.out; have hx := HX.out; have hy := HY.out; have hn := HN.out; have hn1 := HN1.out
    by_cases h1 : i < f
    · rw [putE, if_pos h1] at hE
      rw [putC, if_pos (.inl h1)] at hc
      rw [look_low _ _ _ h1] at hy
      simp only [Prod.mk.injEq] at hy
      exact .inl ⟨h1, hE, hy.2, by rw [hn1, hc, ← hn]⟩
    · by_cases h2 : m ≤ i - f
      · rw [putE, if_neg h1, if_pos h2] at hE
        rw [putC, if_pos (.inr h2)] at hc
        rw [look_far f m _ _ HF5.out h2] at hy
        simp only [Prod.mk.injEq] at hy
        exact .inr (.inl ⟨by omega, h2, hE, hy.2, by rw [hn1, hc, ← hn]⟩)
      · rw [putE, if_neg h1, if_neg h2] at hE
        have hg := put_gone f m cs i 77 (by omega) (by omega)
        rw [← hc, ← hx] at hg
        rw [hc, put_look f m cs i 77 (by omega) (by omega)] at hy
        simp only [Prod.mk.injEq] at hy
        dsimp only at hg
        cases had with
        | true => exact .inr (.inr (.inl ⟨by omega, by omega, hE, hy.2, hy.1, rfl, by simp at hg; omega⟩))
        | false => exact .inr (.inr (.inr ⟨by omega, by omega, hE, hy.2, hy.1, rfl, by simp at hg; omega⟩))
  have hw : IntKind.i64.wrap (N + 1) = N + 1 := IntWalk.i64_in _ (by omega)
  rcases hbr with ⟨h1, rfl, rfl, hNN⟩ | ⟨h1, h2, rfl, rfl, hNN⟩ | ⟨h1, h2, rfl, rfl, rfl, rfl, hNN⟩ | ⟨h1, h2, rfl, rfl, rfl, rfl, hNN⟩
  case' inl =>
    go_wp2_with fail
    refine (HLen.out _ (Below.refl _ _)).mono ?_; rintro e w7 ⟨rfl, hb⟩
    have Bw7 := Lib.hid hb
    clear hb
    go_wp2_with fail
  case' inr.inl =>
    have hwi : IntKind.i64.wrap (i - f) = i - f := IntWalk.i64_in _ (by omega)
    go_wp2_with fail
    refine (HLen.out _ (Below.refl _ _)).mono ?_; rintro e w7 ⟨rfl, hb⟩
    have Bw7 := Lib.hid hb
    clear hb
    go_wp2_with fail
  case' inr.inr.inl =>
    have hwi : IntKind.i64.wrap (i - f) = i - f := IntWalk.i64_in _ (by omega)
    go_wp2_with fail
    refine (HLen.out _ (Below.refl _ _)).mono ?_; rintro e wa ⟨rfl, hb⟩
    have Bwa := Lib.hid hb
    clear hb
    go_wp2_with fail
    refine (HLen.out _ Bwa.out).mono ?_; rintro e w7 ⟨rfl, hb⟩
    have Bw7 := Lib.hid (below_step Bwa.out hb)
    clear hb
    go_wp2_with fail
  case' inr.inr.inr =>
    have hwi : IntKind.i64.wrap (i - f) = i - f := IntWalk.i64_in _ (by omega)
    go_wp2_with fail
    refine (HLen.out _ (Below.refl _ _)).mono ?_; rintro e wa ⟨rfl, hb⟩
    have Bwa := Lib.hid hb
    clear hb
    go_wp2_with fail
    refine (HLen.out _ Bwa.out).mono ?_; rintro e wb ⟨rfl, hb⟩
    have Bwb := Lib.hid (below_step Bwa.out hb)
    clear hb
    go_wp2_with fail
    refine (HLen.out _ Bwb.out).mono ?_; rintro e w7 ⟨rfl, hb⟩
    have Bw7 := Lib.hid (below_step Bwb.out hb)
    clear hb
    go_wp2_with fail
  all_goals
    clear hNN hw
    refine (HLen.out _ Bw7.out).mono ?_; rintro e w8 ⟨rfl, hb8⟩
    have B8 := Lib.hid (below_step Bw7.out hb8)
    clear hb8
    have HL8 := Lib.hid (HL6.out.below B8.out)
    have HB8 := Lib.hid (HB6.out.trans (Below.mono B8.out (Nat.le_trans hbw HB6.out.size)))
    go_wp2_with fail
    refine (cut_ok w8 _ _ _ _ _ cut HL8.out HF5.out (Nat.le_trans hbw HB8.out.size)).mono ?_; rintro e w9 ⟨rfl, hL9, hb9⟩
    have HB9 := Lib.hid (HB8.out.trans hb9)
    have HL9 := Lib.hid hL9
    have HLG : Hid (N1 = (gone (cs1.take (cut - f).toNat) : Nat) + (gone (cs1.drop (cut - f).toNat) : Nat)) := by
      have h := gone_append (cs1.take (cut - f).toNat) (cs1.drop (cut - f).toNat)
      rw [List.take_append_drop] at h
      have := HN1.out
      show N1 = _
      omega
    clear hb9 hL9
    by_cases hc : cutI f cut
    · have e1 : cutE f cs1 cut = 0 := by rw [cutE, if_pos hc]
      have HL9' : Hid (LogAt w9 b b f m cs1) := by have := HL9.out; rwa [cutF, cutC, if_pos hc, if_pos hc] at this
      have HLen9 : Hid (∀ W, Below w9.heap.size w9 W → Calls Try.prog 12 #[.pointer (some ⟨b, 0, none⟩)] W fun e w' => e = .returned (.int .i64 N1) ∧ Below W.heap.size W w') := by
        intro W hW
        rw [HN1.out, ← allF_gone f cs1]
        exact len_ok W _ _ _ _ _ (HL9'.out.below hW) HF5.out
      rw [e1]
      clear e1
      by_cases hcf : cut ≤ f
      all_goals
        have hcc : cut ≤ f ∨ (f < cut ∧ 1099511627776 < cut) := by unfold cutI at hc; omega
        first
          | (have hcf' : f < cut := by omega
             have hc2 : 1099511627776 < cut := by omega
             clear hcf)
          | skip
        clear hc hcc
        go_wp2_with fail
        refine (first_ok w9 _ _ _ _ _ HL9'.out).mono ?_; rintro e wc ⟨rfl, rfl⟩
        go_wp2_with fail
        refine (HLen9.out _ (Below.refl _ _)).mono ?_; rintro e wd ⟨rfl, hbd⟩
        have HBd := Lib.hid (HB9.out.trans (Below.mono hbd (Nat.le_trans hbw HB9.out.size)))
        clear hbd
        go_wp2_with fail
        go_ret
        exact ⟨rfl, HBd.out⟩
    · have e1 : cutE f cs1 cut = (gone (cs1.take (cut - f).toNat) : Nat) := by rw [cutE, if_neg hc]
      obtain ⟨cs2, hcs2⟩ : ∃ c, c = cs1.drop (cut - f).toNat := ⟨_, rfl⟩
      have HL9' : Hid (LogAt w9 b b cut m cs2) := by have := HL9.out; rw [cutF, cutC, if_neg hc, if_neg hc, ← hcs2] at this; exact this
      have HF9 : Hid (Fit cut m cs2) := by have := cut_fit HF5.out cut; rw [cutF, cutC, if_neg hc, if_neg hc, ← hcs2] at this; exact this
      rw [← hcs2] at HLG
      obtain ⟨G, hG⟩ : ∃ N : Int, N = (gone (cs1.take (cut - f).toNat) : Nat) := ⟨_, rfl⟩
      obtain ⟨R, hR⟩ : ∃ N : Int, N = (gone cs2 : Nat) := ⟨_, rfl⟩
      rw [e1, ← hG]
      rw [← hG, ← hR] at HLG
      have hG0 : 0 ≤ G := by omega
      have hf1c : f < cut := by unfold cutI at hc; omega
      have hf2c : cut ≤ 1099511627776 := by unfold cutI at hc; omega
      have hR1 : 0 ≤ R ∧ R ≤ 1024 := by have := gone_le cs2; have := HF9.out.len; omega
      have hwr : IntKind.i64.wrap (N1 - G) = R := by have := HLG.out; rw [show N1 - G = R by omega]; exact IntWalk.i64_in _ (by omega)
      have hwc : IntKind.i64.wrap (cut - 1) = cut - 1 := IntWalk.i64_in _ (by omega)
      have hN0 : (cut : Int) ≤ cut + (nextN cs2 : Nat) := by omega
      have HLen9 : Hid (∀ W, Below w9.heap.size w9 W → Calls Try.prog 12 #[.pointer (some ⟨b, 0, none⟩)] W fun e w' => e = .returned (.int .i64 R) ∧ Below W.heap.size W w') := by
        intro W hW
        rw [hR, ← allF_gone cut cs2]
        exact len_ok W _ _ _ _ _ (HL9'.out.below hW) HF9.out
      have HGet : Hid (Calls Try.prog 13 #[.pointer (some ⟨b, 0, none⟩), .int .i64 (cut - 1)] w9 fun e w' => e = .returned (.tuple #[.int .i64 0, .bool false]) ∧ Below w9.heap.size w9 w') := by
        have := get_ok w9 _ _ _ _ _ (cut - 1) HL9'.out HF9.out (by omega) (by omega)
        rwa [look_low cut cs2 (cut - 1) (by omega)] at this
      have HPut : Hid (∀ W, Below w9.heap.size w9 W → Calls Try.prog 14 #[.pointer (some ⟨b, 0, none⟩), .int .i64 (cut - 1), .int .i64 1] W fun e w' => e = .returned (.int .i64 80) ∧ LogAt w' b b cut m cs2 ∧ Below b W w') := by
        intro W hW
        have := put_ok W _ _ _ _ _ (cut - 1) 1 (HL9'.out.below hW) HF9.out (Nat.le_trans (Nat.le_trans hbw HB9.out.size) hW.size) (by omega) (by omega)
        rwa [putE, putC, if_pos (by omega), if_pos (by omega)] at this
      clear hc e1 hG hR hcs2
      go_wp2_with fail
      refine HGet.out.mono ?_; rintro e wc ⟨rfl, hbc⟩
      have Bc := Lib.hid hbc
      clear hbc
      go_wp2_with fail
      refine (HLen9.out _ Bc.out).mono ?_; rintro e wd ⟨rfl, hbd⟩
      have Bd := Lib.hid (below_step Bc.out hbd)
      clear hbd
      go_wp2_with fail
      refine (first_ok wd _ _ _ _ _ (HL9'.out.below Bd.out)).mono ?_; rintro e wx ⟨rfl, rfl⟩
      go_wp2_with fail
      refine (HPut.out _ Bd.out).mono ?_; rintro e wf ⟨rfl, hLf, hbf⟩
      have HLf := Lib.hid hLf
      have HBf := Lib.hid ((HB9.out.trans (Below.mono Bd.out (Nat.le_trans hbw HB9.out.size))).trans hbf)
      clear hLf hbf
      go_wp2_with fail
      refine (next_ok wf _ _ _ _ _ HLf.out HF9.out).mono ?_; rintro e wg ⟨rfl, hbg⟩
      have HBg := Lib.hid (HBf.out.trans (Below.mono hbg (Nat.le_trans hbw HBf.out.size)))
      clear hbg
      go_wp2_with fail
      go_ret
      exact ⟨rfl, HBg.out⟩

theorem lawWalk {H : Type} (enc : TypeId × Value → H) : LawWalk enc Try.prog 3 Try.f3 (fun _ => True) := by
  intro W base args ds p hval hA hsz _
  rw [Try.params3] at hA hval
  obtain ⟨v0, vs0, d0, ds0, p0, q0, hargs, rfl, rfl, h0, r0⟩ := trodAll_cons hA
  obtain ⟨v1, vs1, d1, ds1, p1, q1, rfl, rfl, rfl, h1, r1⟩ := trodAll_cons r0
  obtain ⟨v2, vs2, d2, ds2, p2, q2, rfl, rfl, rfl, h2, r2⟩ := trodAll_cons r1
  obtain ⟨v3, vs3, d3, ds3, p3, q3, rfl, rfl, rfl, h3, r3⟩ := trodAll_cons r2
  obtain ⟨v4, vs4, d4, ds4, p4, q4, rfl, rfl, rfl, h4, r4⟩ := trodAll_cons r3
  obtain ⟨rfl, rfl, rfl⟩ := trodAll_nil r4
  obtain rfl : args = #[v0, v1, v2, v3, v4] := by cases args; simp_all
  obtain ⟨f0, rfl, rfl, rfl, w0⟩ := open_int Try.underlying3 (hval 0 3 v0 rfl rfl) h0
  obtain ⟨m0, rfl, rfl, rfl, w1⟩ := open_int Try.underlying3 (hval 1 3 v1 rfl rfl) h1
  obtain ⟨a, l, cap, es, sp, rfl, hlc, hcm, hn, hat, hd, hel, hsp, hgood⟩ := open_slice_gen 3 ocells (fun o _ => o.ok) Try.underlying22 (by kernel_rfl) (by omega) (fun n cs y _ h => elem_op n cs y h) (hval 2 22 v2 rfl rfl) h2
  obtain ⟨i, rfl, rfl, rfl, w3⟩ := open_int Try.underlying3 (hval 3 3 v3 rfl rfl) h3
  obtain ⟨c, rfl, rfl, rfl, w4⟩ := open_int Try.underlying3 (hval 4 3 v4 rfl rfl) h4
  have hi := i64_wf w3
  exact window_ok W f0 m0 a l cap i c (by unfold maxLen at hcm; omega) hat (fun k hk => hgood k hk (by omega)) hi.1 hi.2

theorem own : ownKnob Try.prog.godebug = none := by kernel_rfl
theorem laidOut : laidOutB Try.prog = true := by kernel_rfl

set_option maxRecDepth 100000 in
theorem lifted (os : Os) (started : os.Started) (H : Type) (enc : TypeId × Value → H) :
    ReturnsInHanded {} Try.checked os 3 .any (Rows.slotsWindowSpec.pre6 enc Try.prog Try.f3 Rows.slotsWindowRow.domain false) (Rows.slotsWindowSpec.post enc Try.prog Try.f3 false true false false) := by
  refine returnsInHanded_of_change_sized (C := Try.checked) own started (by kernel_rfl) Try.func3
    (ChangeSpec.witness6 (enc := enc) (C := Try.checked) false ⟨#[], #[.int .i64 0, .int .i64 0, .slice none 0 0, .int .i64 0, .int .i64 0], []⟩ 8 (by kernel_rfl) (by kernel_rfl) (by kernel_rfl) (by kernel_rfl)) ?_
  intro W base args ds gs before hval hW hcnd hsz _
  exact law_post (C := Try.checked) laidOut (fun ds h => by match ds, h with | [_, _, _, _, _], _ => rfl) 4 rfl Try.underlying4 rfl (by kernel_rfl) hval hW hsz trivial (lawWalk enc)

theorem proved : Rows.SlotsWindowSaid :=
  OpenClaim.holds_of_wide 3 Try.f3 rfl rfl rfl rfl rfl rfl rfl ⟨rfl, rfl, rfl, rfl, rfl⟩ rfl rfl rfl rfl rfl (by kernel_rfl) Try.func3 (by kernel_rfl)
    (of_decide_eq_true (by kernel_rfl)) (by unfold Func.isWrapper; first | (rw [if_pos (by decide +kernel)]; kernel_rfl) | (rw [if_neg (by decide +kernel)]; exact ⟨rfl, rfl⟩))
    (fun os started H enc _ => lifted os started H enc)
#print axioms proved
end Go.Proofs.Ytpnkohjppbgiaaa.slotsWindow
