/-
  container/heap at a clock's queue: up, down, Push, Remove.
-/
import Derived.Test.YtejjnhgiijhglaaClkQ
namespace Go.Proofs.Ytejjnhgiijhglaa.clkh
open Go.ChangeShapes Go.WideShapes Go.ChangeAt Go.RowKit
open Go.Maps
open Go.Proofs.Ytejjnhgiijhglaa.kit Go.Proofs.Ytejjnhgiijhglaa.mapkit Go.Proofs.Ytejjnhgiijhglaa.own Go.Proofs.Ytejjnhgiijhglaa.clk Go.Proofs.Ytejjnhgiijhglaa.heapp Go.Proofs.Ytejjnhgiijhglaa.clkq
set_option linter.unusedVariables false
set_option linter.unusedSimpArgs false
set_option maxHeartbeats 1000000
set_option maxRecDepth 100000

theorem m_less (a : Addr) (v : Value) (w : World) (h : w.cell? a = some v) : (method 217 57 (.pointer (some a)) "Less").run Try.prog w = .ok (72, v) w := by
  have e : (method 217 57 (.pointer (some a)) "Less").run Try.prog w = (load a >>= fun x => pure (72, x)).run Try.prog w := by kernel_rfl
  rw [e]
  simp [h, go_sem, Result.andThen]
theorem m_swap (a : Addr) (v : Value) (w : World) (h : w.cell? a = some v) : (method 217 57 (.pointer (some a)) "Swap").run Try.prog w = .ok (73, v) w := by
  have e : (method 217 57 (.pointer (some a)) "Swap").run Try.prog w = (load a >>= fun x => pure (73, x)).run Try.prog w := by kernel_rfl
  rw [e]
  simp [h, go_sem, Result.andThen]
theorem drawn_below {w w' : World} (h : ∃ n, w' = w.drewN n) : Below w.heap.size w w' := by
  obtain ⟨n, rfl⟩ := h
  exact below_drewN (Below.refl _ _) n
theorem keep_cq {w w' : World} {base : Nat} (h : Below w.heap.size w w') : Keep (CQ w base) w w' := Keep.of_below h

/-- While a heap is mended: the queue as it stands, of the same timers; from n on as it was. -/
structure Mend (w wr : World) (base cb : Nat) (now turns : Int) (mv : Value) (a : Option Addr) (c : Nat) (q q' : List Tm) (n : Nat) : Prop where
  qat : QAt wr base cb now turns mv a c q'
  perm : q'.Perm q
  rest : ∀ k, n ≤ k → gt q' k = gt q k
  keep : Keep (CQ w base) w wr
theorem Mend.len {w wr : World} {base cb : Nat} {now turns : Int} {mv : Value} {a : Option Addr} {c : Nat} {q q' : List Tm} {n : Nat} (h : Mend w wr base cb now turns mv a c q q' n) : q'.length = q.length := h.perm.length_eq
theorem Mend.cell {w wr : World} {base cb : Nat} {now turns : Int} {mv : Value} {a : Option Addr} {c : Nat} {q q' : List Tm} {n : Nat} (h : Mend w wr base cb now turns mv a c q q' n) : wr.cell? ⟨cb, 2, none⟩ = some (.slice a q.length c) := by
  rw [(kit.blk h.qat.blk).1 2, h.len]; rfl
theorem Mend.old {w wr w' : World} {base cb : Nat} {now turns : Int} {mv : Value} {a : Option Addr} {c : Nat} {q q' : List Tm} {n : Nat} (h : Mend w wr base cb now turns mv a c q q' n) (hb : Below wr.heap.size wr w') : Mend w w' base cb now turns mv a c q q' n := ⟨h.qat.below hb, h.perm, h.rest, h.keep.trans (Keep.of_below hb)⟩

theorem up_ok (w : World) (base cb : Nat) (now turns : Int) (mv : Value) (a : Option Addr) (c : Nat) (q : List Tm) (h : QAt w base cb now turns mv a c q) (n j : Nat) (hj : j < n) (hn : n ≤ q.length) (hl : q.length ≤ 64) (hI : UpI q n j) :
    Calls Try.prog 31 #[.iface 57 (.pointer (some ⟨cb, 2, none⟩)), .int .i64 j] w fun e w' => e = .returned (.tuple #[]) ∧ ∃ q', Mend w w' base cb now turns mv a c q q' n ∧ Hp q' n := by
  have HM0 : Hid (Mend w w base cb now turns mv a c q q n) := ⟨h, List.Perm.refl _, fun _ _ => rfl, Keep.refl _ _⟩
  have HI0 := Lib.hid hI
  clear h hI
  go_enter Try.func31, Try.ntmps31
  go_wp2_with fail
  go_loopw [1] (fun jv wr => ∃ (j : Nat) (q' : List Tm), jv = .int .i64 j ∧ j < n ∧ Hid (Mend w wr base cb now turns mv a c q q' n) ∧ Hid (UpI q' n j)) (fun jv _ => (intOf jv).toNat)
  case atStart => exact ⟨j, q, rfl, hj, HM0, HI0⟩
  case round =>
    obtain ⟨j, q', rfl, hjn, HM, HI⟩ := hrel
    have hlen := HM.out.len
    by_cases h0 : j = 0
    · subst h0
      have HE : Hid (Hp q' n) := up_done HI.out (.inl rfl)
      go_wp2_with fail
      exact bodyPost_end (v := .tuple #[]) (by simp [results, Try.results31, go_sem]) rfl ⟨rfl, q', HM.out, HE.out⟩
    · obtain ⟨p, hp⟩ : ∃ p, p = par j := ⟨_, rfl⟩
      have hpj : p < j := by rw [hp]; unfold par; omega
      have hpe : ((j : Int) - 1) / 2 = (p : Int) := by rw [hp]; unfold par; omega
      have hne : ((p : Int) == (j : Int)) = false := by simp; omega
      have hls := m_less ⟨cb, 2, none⟩ _ wr HM.out.cell
      have HL := Lib.hid (less_ok wr base cb now turns mv a c q' HM.out.qat j p (by omega) (by omega) (by omega))
      rw [hlen] at HL
      have HSW := Lib.hid (fun (wx : World) (hm : Mend w wx base cb now turns mv a c q q' n) => (by
        have hx := swap_ok wx base cb now turns mv a c q' hm.qat p j (by omega) (by omega) hpj (by omega)
        rw [hlen] at hx
        exact hx : Calls Try.prog 73 #[.slice a q.length c, .int .i64 p, .int .i64 j] wx fun e w' => e = .returned (.tuple #[]) ∧ QAt w' base cb now turns mv a c (swp q' p j) ∧ Keep (CQ wx base) wx w'))
      have hjq : j < q'.length := by omega
      have HP := Lib.hid hp
      have HLEN := Lib.hid hlen
      by_cases hlt : lt (gt q' j) (gt q' p)
      · have hb : ltB (gt q' j) (gt q' p) = true := decide_eq_true hlt
        rw [hb] at HL
        have HST := Lib.hid (up_step HI.out hjn (by omega) (by omega) (by rw [← hp]; exact hlt))
        rw [← hp] at HST
        clear hp hlt hb hlen h0
        go_wp2_with fail
        refine HL.out.mono ?_; rintro e w1 ⟨rfl, hd1⟩
        have hM1 := HM.out.old (drawn_below hd1)
        have hsw := m_swap ⟨cb, 2, none⟩ _ w1 hM1.cell
        have HM1 := Lib.hid hM1
        clear hd1 hM1 hls
        go_wp2_with fail
        refine (HSW.out w1 HM1.out).mono ?_; rintro e w2 ⟨rfl, hq2, hk2⟩
        have HM2 : Hid (Mend w w2 base cb now turns mv a c q (swp q' p j) n) := ⟨hq2, (swp_perm (by omega) hjq).trans HM1.out.perm, fun k hk => by
          rw [gt_swp (by omega) hjq, if_neg (by omega), if_neg (by omega)]
          exact HM1.out.rest k hk, cq_trans HM1.out.keep hk2⟩
        clear hq2 hk2 hsw
        go_wp2_with fail
        go_roundw
        case rel => exact ⟨p, swp q' p j, by go_num, by omega, HM2, HST⟩
        case measure => simp [intOf]; omega
      · have hb : ltB (gt q' j) (gt q' p) = false := decide_eq_false hlt
        rw [hb] at HL
        have HE : Hid (Hp q' n) := up_done HI.out (.inr (by rw [← hp]; exact hlt))
        clear hp hlt hb hlen h0
        go_wp2_with fail
        refine HL.out.mono ?_; rintro e w1 ⟨rfl, hd1⟩
        have HM1 := Lib.hid (HM.out.old (drawn_below hd1))
        clear hd1 hls
        go_wp2_with fail
        exact bodyPost_end (v := .tuple #[]) (by simp [results, Try.results31, go_sem]) rfl ⟨rfl, q', HM1.out, HE.out⟩

theorem down_ok (w : World) (base cb : Nat) (now turns : Int) (mv : Value) (a : Option Addr) (c : Nat) (q : List Tm) (h : QAt w base cb now turns mv a c q) (n i0 : Nat) (hi : i0 < n) (hn : n ≤ q.length) (hl : q.length ≤ 64) (hI : DnI q n i0 i0) :
    Calls Try.prog 35 #[.iface 57 (.pointer (some ⟨cb, 2, none⟩)), .int .i64 i0, .int .i64 n] w fun e w' => ∃ (b : Bool) (q' : List Tm), e = .returned (.bool b) ∧ Mend w w' base cb now turns mv a c q q' n ∧ (b = true → Hp q' n) ∧ (b = false → UpI q' n i0) := by
  have HM0 : Hid (Mend w w base cb now turns mv a c q q n) := ⟨h, List.Perm.refl _, fun _ _ => rfl, Keep.refl _ _⟩
  have HI0 := Lib.hid hI
  clear h hI
  go_enter Try.func35, Try.ntmps35
  go_wp2_with fail
  go_loopw [7] (fun iv wr => ∃ (i : Nat) (q' : List Tm), iv = .int .i64 i ∧ i0 ≤ i ∧ i < n ∧ Hid (Mend w wr base cb now turns mv a c q q' n) ∧ Hid (DnI q' n i0 i)) (fun iv _ => n - (intOf iv).toNat)
  case atStart => exact ⟨i0, q, rfl, Nat.le_refl _, hi, HM0, HI0⟩
  case round =>
    obtain ⟨i, q', rfl, hlo, hin, HM, HI⟩ := hrel
    have hlen := HM.out.len
    have HFIN : Hid (∀ wx, Mend w wx base cb now turns mv a c q q' n → (∀ k, 0 < k → k < n → par k = i → ¬ lt (gt q' k) (gt q' i)) → ∃ (b : Bool) (q'' : List Tm), Ending.returned (.bool (decide (i0 < i))) = .returned (.bool b) ∧ Mend w wx base cb now turns mv a c q q'' n ∧ (b = true → Hp q'' n) ∧ (b = false → UpI q'' n i0)) := by
      intro wx hm hs
      refine ⟨_, q', rfl, hm, fun hb => ?_, fun hb => ?_⟩
      · exact dn_moved HI.out hs (by simpa using hb)
      · have e : i = i0 := by simp at hb; omega
        subst e
        exact dn_stays HI.out hs
    have hls := m_less ⟨cb, 2, none⟩ _ wr HM.out.cell
    obtain ⟨j1, hj1⟩ : ∃ j1, j1 = 2 * i + 1 := ⟨_, rfl⟩
    have e1 : 2 * (i : Int) + 1 = (j1 : Int) := by rw [hj1]; omega
    have HLS := Lib.hid (fun (wx : World) (hm : Mend w wx base cb now turns mv a c q q' n) (x y : Nat) (hx : x < q.length) (hy : y < q.length) => (by
      have hx := less_ok wx base cb now turns mv a c q' hm.qat x y (by omega) (by omega) (by omega)
      rw [hlen] at hx
      exact hx : Calls Try.prog 72 #[.slice a q.length c, .int .i64 x, .int .i64 y] wx fun e w' => e = .returned (.bool (ltB (gt q' x) (gt q' y))) ∧ ∃ n, w' = wx.drewN n))
    have HSW := Lib.hid (fun (wx : World) (hm : Mend w wx base cb now turns mv a c q q' n) (j : Nat) (hij : i < j) (hj : j < q.length) => (by
      have hx := swap_ok wx base cb now turns mv a c q' hm.qat i j (by omega) (by omega) hij (by omega)
      rw [hlen] at hx
      exact hx : Calls Try.prog 73 #[.slice a q.length c, .int .i64 i, .int .i64 j] wx fun e w' => e = .returned (.tuple #[]) ∧ QAt w' base cb now turns mv a c (swp q' i j) ∧ Keep (CQ wx base) wx w'))
    have HLEN := Lib.hid hlen
    have hiq : i < q.length := by omega
    by_cases hb1 : n ≤ j1
    · have t1 : decide ((n : Int) ≤ (j1 : Int)) = true := decide_eq_true (by omega)
      have HE := Lib.hid (HFIN.out wr HM.out (fun k hk0 hk hp => absurd hp (by unfold par; omega)))
      clear hlen hj1
      go_wp2_with fail
      go_ret
      obtain ⟨b9, q9, h91, h92⟩ := HE.out
      exact ⟨b9, q9, by first | exact h91 | simpa using h91, h92⟩
    have t1 : decide ((n : Int) ≤ (j1 : Int)) = false := decide_eq_false (by omega)
    have t0 : decide ((j1 : Int) < 0) = false := decide_eq_false (by omega)
    obtain ⟨j2, hj2⟩ : ∃ j2, j2 = j1 + 1 := ⟨_, rfl⟩
    have e2 : (j1 : Int) + 1 = (j2 : Int) := by rw [hj2]; omega
    have HJ1 : Hid (i < j1 ∧ j1 < n ∧ par j1 = i ∧ 0 < j1) := ⟨by omega, by omega, by rw [hj1]; unfold par; omega, by omega⟩
    have HJ2 : Hid (j2 < n → (i < j2 ∧ j2 < n ∧ par j2 = i ∧ 0 < j2)) := fun h => ⟨by omega, h, by rw [hj2, hj1]; unfold par; omega, by omega⟩
    have HCH : Hid (∀ k, 0 < k → k < n → par k = i → k = j1 ∨ k = j2) := fun k h0 hk hp => by unfold par at hp; omega
    have hpick : (¬ j2 < n) ∨ (j2 < n ∧ lt (gt q' j2) (gt q' j1)) ∨ (j2 < n ∧ ¬ lt (gt q' j2) (gt q' j1)) := by
      by_cases h1 : j2 < n
      · by_cases h2 : lt (gt q' j2) (gt q' j1)
        · exact .inr (.inl ⟨h1, h2⟩)
        · exact .inr (.inr ⟨h1, h2⟩)
      · exact .inl h1
    have hj1q : j1 < q.length := by omega
    clear hj1 hj2
    rcases hpick with h2 | ⟨h2, hlt⟩ | ⟨h2, hlt⟩
    case' inl =>
      have t2 : decide ((j2 : Int) < (n : Int)) = false := decide_eq_false (by omega)
      have HMIN : Hid (∀ k, 0 < k → k < n → par k = i → ¬ lt (gt q' k) (gt q' j1)) := fun k h0 hk hp => by
        rcases HCH.out k h0 hk hp with rfl | rfl
        · unfold lt; omega
        · omega
      obtain ⟨j, hj⟩ : ∃ j, j = j1 := ⟨_, rfl⟩
      have HJ : Hid (i < j ∧ j < n ∧ par j = i ∧ 0 < j) := by rw [hj]; exact HJ1.out
      rw [← hj] at HMIN
      go_upto_region 8 with fail
      rw [← hj]
      obtain ⟨wj, hwj⟩ : ∃ x, x = wr := ⟨_, rfl⟩
      rw [← hwj]
      have HMJ : Hid (Mend w wj base cb now turns mv a c q q' n) := by rw [hwj]; exact HM
      clear hwj hj
    case' inr.inl =>
      have t2 : decide ((j2 : Int) < (n : Int)) = true := decide_eq_true (by omega)
      have HL := HLS.out wr HM.out j2 j1 (by omega) hj1q
      rw [show ltB (gt q' j2) (gt q' j1) = true from decide_eq_true hlt] at HL
      have HL := Lib.hid HL
      have HMIN : Hid (∀ k, 0 < k → k < n → par k = i → ¬ lt (gt q' k) (gt q' j2)) := fun k h0 hk hp => by
        rcases HCH.out k h0 hk hp with rfl | rfl
        · unfold lt at hlt ⊢; omega
        · unfold lt; omega
      obtain ⟨j, hj⟩ : ∃ j, j = j2 := ⟨_, rfl⟩
      have HJ : Hid (i < j ∧ j < n ∧ par j = i ∧ 0 < j) := by rw [hj]; exact HJ2.out h2
      rw [← hj] at HMIN
      clear hlt
      go_upto_region 7 with fail
      refine HL.out.mono ?_; rintro e wj ⟨rfl, hd1⟩
      have HMJ := Lib.hid (HM.out.old (drawn_below hd1))
      go_upto_region 8 with fail
      rw [← hj]
      clear hd1 hj HL
    case' inr.inr =>
      have t2 : decide ((j2 : Int) < (n : Int)) = true := decide_eq_true (by omega)
      have HL := HLS.out wr HM.out j2 j1 (by omega) hj1q
      rw [show ltB (gt q' j2) (gt q' j1) = false from decide_eq_false hlt] at HL
      have HL := Lib.hid HL
      have HMIN : Hid (∀ k, 0 < k → k < n → par k = i → ¬ lt (gt q' k) (gt q' j1)) := fun k h0 hk hp => by
        rcases HCH.out k h0 hk hp with rfl | rfl
        · unfold lt; omega
        · exact hlt
      obtain ⟨j, hj⟩ : ∃ j, j = j1 := ⟨_, rfl⟩
      have HJ : Hid (i < j ∧ j < n ∧ par j = i ∧ 0 < j) := by rw [hj]; exact HJ1.out
      rw [← hj] at HMIN
      clear hlt
      go_upto_region 7 with fail
      refine HL.out.mono ?_; rintro e wj ⟨rfl, hd1⟩
      have HMJ := Lib.hid (HM.out.old (drawn_below hd1))
      go_upto_region 8 with fail
      rw [← hj]
      clear hd1 hj HL
    all_goals
      obtain ⟨hij, hjn, hjp, hj0⟩ := HJ.out
      have hlj := m_less ⟨cb, 2, none⟩ _ wj HMJ.out.cell
      have hL := HLS.out wj HMJ.out j i (by omega) hiq
      have hjq : j < q.length := by omega
      clear t0 t1 t2 e1 e2 hls h2 hb1
      by_cases hlt : lt (gt q' j) (gt q' i)
      · rw [show ltB (gt q' j) (gt q' i) = true from decide_eq_true hlt] at hL
        have HL := Lib.hid hL
        have HST := Lib.hid (dn_step HI.out (by have := HLEN.out; omega) hjn hjp hj0 hlo HMIN.out hlt)
        clear hL hlt hlen
        go_wp2_with fail
        refine HL.out.mono ?_; rintro e w1 ⟨rfl, hd1⟩
        have hM1 := HMJ.out.old (drawn_below hd1)
        have hsw := m_swap ⟨cb, 2, none⟩ _ w1 hM1.cell
        have HM1 := Lib.hid hM1
        clear hd1 hM1 hlj HL
        go_wp2_with fail
        refine (HSW.out w1 HM1.out j hij hjq).mono ?_; rintro e w2 ⟨rfl, hq2, hk2⟩
        have HM2 : Hid (Mend w w2 base cb now turns mv a c q (swp q' i j) n) := ⟨hq2, (swp_perm (by have := HLEN.out; omega) (by have := HLEN.out; omega)).trans HM1.out.perm, fun k hk => by
          rw [gt_swp (by have := HLEN.out; omega) (by have := HLEN.out; omega), if_neg (by omega), if_neg (by omega)]
          exact HM1.out.rest k hk, cq_trans HM1.out.keep hk2⟩
        clear hq2 hk2 hsw
        go_wp2_with fail
        go_roundw
        case rel => exact ⟨j, swp q' i j, by go_num, by omega, hjn, HM2, HST⟩
        case measure => simp [intOf]; omega
      · rw [show ltB (gt q' j) (gt q' i) = false from decide_eq_false hlt] at hL
        have HL := Lib.hid hL
        have hstop : ∀ k, 0 < k → k < n → par k = i → ¬ lt (gt q' k) (gt q' i) := fun k h0 hk hp => by
          have h1 := HMIN.out k h0 hk hp
          unfold lt at h1 hlt ⊢; omega
        have HSTOP := Lib.hid hstop
        clear hL hlt hlen hstop
        go_wp2_with fail
        refine HL.out.mono ?_; rintro e w1 ⟨rfl, hd1⟩
        have HE := Lib.hid (HFIN.out w1 (HMJ.out.old (drawn_below hd1)) HSTOP.out)
        clear hd1 hlj HL
        go_wp2_with fail
        go_ret
        obtain ⟨b9, q9, h91, h92⟩ := HE.out
        exact ⟨b9, q9, by first | exact h91 | simpa using h91, h92⟩

/-- container/heap's Push. -/
theorem hpush_ok (w : World) (base cb : Nat) (now turns : Int) (mv : Value) (a : Option Addr) (c : Nat) (q : List Tm) (t : Tm) (pl : Int) (h : QAt w base cb now turns mv a c q) (hbase : base ≤ w.heap.size) (ht : TAt w t pl) (htb : base ≤ t.tb) (htn : Num t) (hne : ∀ x ∈ q, x.tb ≠ t.tb) (hl : q.length < 64) (hh : Hp q q.length) :
    Calls Try.prog 22 #[.iface 57 (.pointer (some ⟨cb, 2, none⟩)), .iface 52 (.pointer (some ⟨t.tb, 0, none⟩))] w fun e w' => e = .returned (.tuple #[]) ∧ ∃ a' c' q', QAt w' base cb now turns mv a' c' q' ∧ q'.Perm (q ++ [t]) ∧ Hp q' q'.length ∧ Keep (CQ w base) w w' := by
  have HC := Lib.hid (qpush_ok w base cb now turns mv a c q t pl h hbase ht htb htn hne hl)
  have hm := m_push (some ⟨cb, 2, none⟩)
  have HH := Lib.hid hh
  obtain ⟨tb, htbd⟩ : ∃ x, x = t.tb := ⟨_, rfl⟩
  rw [← htbd] at HC ⊢
  clear h ht hne htb htbd hh
  go_enter Try.func22, Try.ntmps22
  go_wp2_with fail
  refine HC.out.mono ?_; rintro e w1 ⟨rfl, ⟨a1, c1, hq1⟩, hk1⟩
  have c2 : w1.cell? ⟨cb, 2, none⟩ = some (.slice a1 (q.length + 1) c1) := by rw [(kit.blk hq1.blk).1 2]; simp
  have hl := m_len ⟨cb, 2, none⟩ _ w1 c2
  have HU := Lib.hid (up_ok w1 base cb now turns mv a1 c1 (q ++ [t]) hq1 (q.length + 1) q.length (by omega) (by simp) (by simp; omega) (up_start HH.out))
  have HK1 := Lib.hid hk1
  have HLN := Lib.hid (qlen_ok a1 (q.length + 1) c1 w1 (by omega))
  have hcast : (((q.length + 1 : Nat) : Int) - 1) = (q.length : Int) := by omega
  clear hq1 hk1 hm HC c2
  go_wp2_with fail
  refine HLN.out.mono ?_; rintro e w2 ⟨rfl, rfl⟩
  go_wp2_with fail
  refine HU.out.mono ?_; rintro e w2 ⟨rfl, q', hM, hH⟩
  have HM := Lib.hid hM
  have HE : Hid (Hp q' q'.length) := by
    have e : q'.length = q.length + 1 := by rw [hM.len]; simp
    rw [Hid, e]
    exact hH
  clear hM hH
  go_wp2_with fail
  exact bodyPost_end (v := .tuple #[]) (by simp [results, Try.results22, go_sem]) rfl ⟨rfl, a1, c1, q', HM.out.qat, HM.out.perm, HE.out, cq_trans HK1.out HM.out.keep⟩

/-- container/heap's Remove. -/
theorem hremove_ok (w : World) (base cb : Nat) (now turns : Int) (mv : Value) (a : Option Addr) (c : Nat) (q : List Tm) (h : QAt w base cb now turns mv a c q) (i : Nat) (hi : i < q.length) (hl : q.length ≤ 64) (hh : Hp q q.length) :
    Calls Try.prog 30 #[.iface 57 (.pointer (some ⟨cb, 2, none⟩)), .int .i64 i] w fun e w' => ∃ v, e = .returned v ∧ ∃ q', QAt w' base cb now turns mv a c q' ∧ q'.Perm (q.eraseIdx i) ∧ Hp q' q'.length ∧ Keep (CQ w base) w w' := by
  obtain ⟨n, hn⟩ : ∃ n, q.length = n + 1 := ⟨q.length - 1, by omega⟩
  have HQ := Lib.hid h
  have HH := Lib.hid hh
  have HN := Lib.hid hn
  have hm := m_pop (some ⟨cb, 2, none⟩)
  have c2 : w.cell? ⟨cb, 2, none⟩ = some (.slice a q.length c) := (kit.blk h.blk).1 2
  have hln := m_len ⟨cb, 2, none⟩ _ w c2
  have HLN := Lib.hid (qlen_ok a q.length c w hl)
  have hnl : (q.length : Int) - 1 = (n : Int) := by omega
  -- what Pop leaves of a mended queue
  have HPOP : Hid (∀ (wx : World) (q' : List Tm), QAt wx base cb now turns mv a c q' → q'.Perm q → gt q' n = gt q i → Hp q' n → Keep (CQ w base) w wx → Calls Try.prog 74 #[.pointer (some ⟨cb, 2, none⟩)] wx fun e w' => ∃ v, e = .returned v ∧ ∃ q', QAt w' base cb now turns mv a c q' ∧ q'.Perm (q.eraseIdx i) ∧ Hp q' q'.length ∧ Keep (CQ w base) w w') := by
    intro wx q' hq hp hg hH hk
    have hlen := hp.length_eq
    refine (qpop_ok wx base cb now turns mv a c q' hq n (by omega) (by omega)).mono ?_
    rintro e w' ⟨rfl, hq', hk'⟩
    exact ⟨_, rfl, q'.take n, hq', perm_left hp (by omega) hi hg, hp_take hH (by omega), cq_trans hk hk'⟩
  by_cases hin : i = n
  · have hz : ((n : Int) != (i : Int)) = false := by simp; omega
    have HP := Lib.hid (HPOP.out w q HQ.out (List.Perm.refl _) (by rw [hin]) (fun k h0 hk => HH.out k h0 (by omega)) (Keep.refl _ _))
    clear h hh hn hin
    go_enter Try.func30, Try.ntmps30
    go_wp2_with fail
    refine HLN.out.mono ?_; rintro e w2 ⟨rfl, rfl⟩
    go_wp2_with fail
    refine HP.out.mono ?_; rintro e w3 ⟨v, rfl, hE⟩
    have HE := Lib.hid hE
    clear hE
    go_wp2_with fail
    go_ret
    exact ⟨_, rfl, HE.out⟩
  · have hin2 : i < n := by omega
    have hz : ((n : Int) != (i : Int)) = true := by simp; omega
    have hsw := m_swap ⟨cb, 2, none⟩ _ w c2
    have HSW := Lib.hid (swap_ok w base cb now turns mv a c q h i n hi (by omega) hin2 hl)
    have HDI := Lib.hid (dn_start (i := i) (n := n) (by rw [← hn]; exact hh) hn.symm hin2)
    have HGN : Hid (gt (swp q i n) n = gt q i) := by rw [Hid, gt_swp hi (by omega), if_pos rfl]
    have HSP := Lib.hid (swp_perm hi (show n < q.length by omega))
    have HSL := Lib.hid (swp_length q i n)
    have hnq : n < q.length := by omega
    clear h hh hn hin
    go_enter Try.func30, Try.ntmps30
    go_wp2_with fail
    refine HLN.out.mono ?_; rintro e w2 ⟨rfl, rfl⟩
    go_wp2_with fail
    refine HSW.out.mono ?_; rintro e w3 ⟨rfl, hq3, hk3⟩
    have HD := Lib.hid (down_ok w3 base cb now turns mv a c (swp q i n) hq3 n i hin2 (by have := HSL.out; omega) (by have := HSL.out; omega) HDI.out)
    have HK3 := Lib.hid hk3
    clear hq3 hk3 HSW hsw hln c2
    go_wp2_with fail
    refine HD.out.mono ?_; rintro e w4 ⟨b, q4, rfl, hM4, hT, hF⟩
    have HM4 := Lib.hid hM4
    cases b with
    | true =>
      have HP := Lib.hid (HPOP.out w4 q4 HM4.out.qat (HM4.out.perm.trans HSP.out) (by rw [HM4.out.rest n (Nat.le_refl _), HGN.out]) (hT rfl) (cq_trans HK3.out HM4.out.keep))
      clear hM4 hT hF HD
      go_wp2_with fail
      refine HP.out.mono ?_; rintro e w5 ⟨v, rfl, hE⟩
      have HE := Lib.hid hE
      clear hE
      go_wp2_with fail
      go_ret
      exact ⟨_, rfl, HE.out⟩
    | false =>
      have hl4 : q4.length = q.length := by rw [HM4.out.len, HSL.out]
      have HU := Lib.hid (up_ok w4 base cb now turns mv a c q4 HM4.out.qat n i hin2 (by omega) (by omega) (hF rfl))
      clear hM4 hT hF HD hl4
      go_wp2_with fail
      refine HU.out.mono ?_; rintro e w5 ⟨rfl, q5, hM5, hH5⟩
      have HP := Lib.hid (HPOP.out w5 q5 hM5.qat (hM5.perm.trans (HM4.out.perm.trans HSP.out)) (by rw [hM5.rest n (Nat.le_refl _), HM4.out.rest n (Nat.le_refl _), HGN.out]) hH5 (cq_trans (cq_trans HK3.out HM4.out.keep) hM5.keep))
      clear hM5 hH5 HU
      go_wp2_with fail
      refine HP.out.mono ?_; rintro e w6 ⟨v, rfl, hE⟩
      have HE := Lib.hid hE
      clear hE
      go_wp2_with fail
      go_ret
      exact ⟨_, rfl, HE.out⟩
end Go.Proofs.Ytejjnhgiijhglaa.clkh
