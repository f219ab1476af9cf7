/-
  An acceptor's Prepare.
-/
import Derived.Test.YtcaakiaenfkeaaaGreatN05
import Derived.Test.YtcaakiaenfkeaaaGreatN03
import Derived.Test.YtcaakiaenfkeaaaGreatN01
import Derived.Test.YtcaakiaenfkeaaaGreatN04
import Derived.Deep.Onto
namespace Go.Proofs.YtcaakiaenfkeaaaGreat.acch
open Go.ChangeShapes Go.WideShapes Go.ChangeAt Go.RowKit
open Go.Proofs.YtcaakiaenfkeaaaGreat.kit Go.Proofs.YtcaakiaenfkeaaaGreat.mapkit Go.Proofs.YtcaakiaenfkeaaaGreat.byt Go.Proofs.YtcaakiaenfkeaaaGreat.own Go.Proofs.YtcaakiaenfkeaaaGreat.accd Go.Proofs.YtcaakiaenfkeaaaGreat.acca Go.Proofs.YtcaakiaenfkeaaaGreat.accb Go.Proofs.YtcaakiaenfkeaaaGreat.acck Go.Proofs.YtcaakiaenfkeaaaGreat.acce Go.Proofs.YtcaakiaenfkeaaaGreat.accf Go.Proofs.YtcaakiaenfkeaaaGreat.accg
set_option linter.unusedVariables false
set_option linter.unusedSimpArgs false
set_option maxHeartbeats 1000000
set_option maxRecDepth 100000

def prepE (A : AS) (r n : Int) : Int := if realB r n = false then 1 else if lessB r n A.r A.n = true then 90 else 0
def prepS (A : AS) (r n : Int) : AS := if prepE A r n = 0 then ⟨r, n, A.first, A.vs⟩ else A
/-- What Prepare tells. -/
def Tells (w w' : World) (A : AS) (r n d : Int) (v : Value) : Prop := if prepE A r n = 0 then accc.Told w w' v (from4 A.vs d) else v = .slice none 0 0

theorem kept_lv (vs : List Vt) (d : Int) : (kept vs d).map lv = from4 (vs.map lv) d := from_lv vs d
theorem prepare_ok (w : World) (base b mb : Nat) (A : AS) (r n d : Int) (h : AccIs w base b mb A) :
    Calls Tryz.prog 21 #[.pointer (some ⟨b, 0, none⟩), .agg #[.int .i64 r, .int .i64 n], .int .i64 d] w fun e w' => ∃ v, e = .returned (.tuple #[v, .int .i64 (prepE A r n)]) ∧ Tells w w' A r n d v ∧ AccIs w' base b mb (prepS A r n) ∧ Keep (fun k => k = b ∨ k = mb) w w' := by
  obtain ⟨vs, hA, hvs⟩ := h
  obtain ⟨w1, hw1⟩ : ∃ w1 : World, w1 = (w.alloc (.cells #[.int .i64 r, .int .i64 n] 28)).alloc (.cells #[.int .i64 d] 3) := ⟨_, rfl⟩
  have hb1 : Below w.heap.size w w1 := by rw [hw1]; exact below_new2 _ _ _
  have hn1 := new2 w (.cells #[.int .i64 r, .int .i64 n] 28) (.cells #[.int .i64 d] 3)
  rw [← hw1] at hn1
  obtain ⟨n0, n1, hs1⟩ := hn1
  have HN0 := Lib.hid n0
  have HN1 := Lib.hid n1
  have HB1 := Lib.hid hb1
  have HW := Lib.hid hw1
  have HA := Lib.hid hA
  have HR := Lib.hid (real_any r n w1)
  obtain ⟨q0, q1, -, -, qz⟩ := blk2 n0
  have hbz := (kit.blk hA.blk).2.2
  clear n0 n1 hb1 hw1 hA
  by_cases hreal : realB r n = false
  · have hE : prepE A r n = 1 := by rw [prepE, if_pos hreal]
    rw [hreal] at HR
    rw [hE]
    go_enter Tryz.func21, Tryz.ntmps21
    go_wp2_with fail
    rw [← HW.out]
    refine HR.out.mono ?_; rintro e w2 ⟨rfl, hb2⟩
    have HB2 := Lib.hid (below_step HB1.out hb2)
    clear hb2 HR
    go_wp2_with fail
    refine bodyPost_ret (v := .tuple #[.slice none 0 0, .int .i64 1]) (by simp [results, Tryz.results21, go_sem]) rfl ⟨_, rfl, ?_, ?_, Keep.of_below HB2.out⟩
    · rw [Tells, hE, if_neg (by decide)]
    · rw [prepS, hE, if_neg (by decide)]
      exact ⟨vs, HA.out.below HB2.out, hvs⟩
  · have hreal' : realB r n = true := by simpa using hreal
    rw [hreal'] at HR
    go_enter Tryz.func21, Tryz.ntmps21
    go_wp2_with fail
    rw [← HW.out]
    refine HR.out.mono ?_; rintro e w2 ⟨rfl, hb2⟩
    have hb02 := below_step HB1.out hb2
    have hA2 := HA.out.below hb02
    obtain ⟨c0, c1, c2, c3, cz⟩ := blk4 hA2.blk
    obtain ⟨p0, p1, -, -, pz⟩ := blk2 (hp_step HN0.out hb2)
    have HN2 := Lib.hid (hp_step HN0.out hb2)
    have HD2 := Lib.hid (hp_step HN1.out hb2)
    have HB2 := Lib.hid hb02
    have HL := Lib.hid (less_any r n A.r A.n w2.drew)
    clear hb2 hb02 hA2 HR q0 q1 qz HN0 HN1
    go_wp2_with fail
    go_still_tail 5, (by kernel_rfl)
    change wpList _ _ _ _ _ w2.drew
    go_wp2_with fail
    refine HL.out.mono ?_; rintro e w3 ⟨rfl, hb3⟩
    have hb23 := below_step (below_drewN (Below.refl _ w2) 1) hb3
    have HB3 := Lib.hid (below_step HB2.out hb23)
    have HA3 := Lib.hid (HA.out.below HB3.out)
    have HN3 := Lib.hid (hp_step HN2.out hb23)
    have HD3 := Lib.hid (hp_step HD2.out hb23)
    clear hb3 hb23 HL c0 c1 c2 c3 cz p0 p1 pz
    by_cases hL : lessB r n A.r A.n = true
    · have hE : prepE A r n = 90 := by rw [prepE, if_neg hreal, if_pos hL]
      rw [hL]
      go_wp2_with fail
      refine bodyPost_ret (v := .tuple #[.slice none 0 0, .int .i64 90]) (by simp [results, Tryz.results21, go_sem]) rfl ⟨_, by rw [hE], ?_, ?_, Keep.of_below HB3.out⟩
      · rw [Tells, hE, if_neg (by decide)]
      · rw [prepS, hE, if_neg (by decide)]
        exact ⟨vs, HA3.out, hvs⟩
    · have hE : prepE A r n = 0 := by rw [prepE, if_neg hreal, if_neg hL]
      rw [show lessB r n A.r A.n = false by simpa using hL]
      obtain ⟨hA4, hk4⟩ := acc_promise HA3.out r n
      obtain ⟨w4, hw4⟩ : ∃ w4 : World, w4 = (w3.setCell ⟨b, 0, none⟩ (.int .i64 r)).setCell ⟨b, 1, none⟩ (.int .i64 n) := ⟨_, rfl⟩
      rw [← hw4] at hA4 hk4
      obtain ⟨c0, c1, c2, c3, cz⟩ := blk4 HA3.out.blk
      obtain ⟨f0, f1, f2, f3⟩ := blk4f HA3.out.blk
      obtain ⟨p0, p1, -, -, pz⟩ := blk2 HN3.out
      have hd4 : w4.heap[w.heap.size + 1]? = some (.cells #[.int .i64 d] 3 (0, 0)) := by
        rw [hw4]
        exact (hp_set_ne (show w.heap.size + 1 ≠ b by omega)).trans ((hp_set_ne (show w.heap.size + 1 ≠ b by omega)).trans HD3.out)
      have HV := Lib.hid (accc.votes_at w4 base b mb _ _ _ vs hA4)
      have HA4 := Lib.hid hA4
      have HD4 := Lib.hid hd4
      have HK4 := Lib.hid ((Keep.of_below HB3.out).trans hk4)
      have HW4 := Lib.hid hw4
      have hz4 := hk4.size
      have hz3 := HB3.out.size
      clear hA4 hk4 hw4 hd4
      go_wp2_with fail
      rw [← HW4.out]
      refine HV.out.mono ?_; rintro e w5 ⟨v5, rfl, ht5, hb5⟩
      obtain ⟨a, c, xs, rfl, hxl, hrow, hbd⟩ := ht5
      have hlen : xs.length ≤ 16 := by
        have := congrArg List.length hxl
        rw [List.length_map, List.length_map] at this
        have := HA4.out.len
        omega
      have HDF := Lib.hid (delf_any w5 w4.heap.size (w.heap.size + 1) d a c xs hlen hrow (hp_step HD4.out hb5))
      have HROW := Lib.hid hrow
      have HBD := Lib.hid hbd
      have HXL := Lib.hid hxl
      have HB5 := Lib.hid hb5
      clear hrow hbd hxl hb5 HV c0 c1 c2 c3 cz f0 f1 f2 f3 p0 p1 pz
      go_wp2_with fail
      refine HDF.out.mono ?_; rintro e w6 ⟨rfl, hr6, hk6⟩
      have hB46 : Below w4.heap.size w4 w6 := HB5.out.trans (hk6.below HB5.out.size (fun k hk e => by have := (own_from HROW.out k e).1; omega))
      have hbd6 : ∀ x ∈ kept xs d, accd.Body w6 w4.heap.size x := by
        intro x hx
        have hx' := HBD.out x (List.mem_filter.1 hx).1
        refine own_kept hx' (fun g hg => hk6.block g (own_from hx' g hg).2 (fun e => ?_))
        obtain ⟨cur, hcur⟩ := own_heap hx' g hg
        exact own_ne HROW.out hcur (by decide) g e rfl
      have HT := Lib.hid (show accc.Told w w6 (.slice a (kept xs d).length c) (from4 A.vs d) from ⟨a, c, kept xs d, rfl, by rw [kept_lv, HXL.out, hvs], own_mono hr6 (by omega), fun x hx => own_mono (hbd6 x hx) (by omega)⟩)
      have HA6 := Lib.hid (HA4.out.below hB46)
      have HK6 := Lib.hid (HK4.out.trans (Keep.of_below hB46))
      clear hr6 hk6 hB46 hbd6 HDF
      go_wp2_with fail
      refine bodyPost_ret (v := .tuple #[.slice a (kept xs d).length c, .int .i64 0]) (by simp [results, Tryz.results21, go_sem]) rfl ⟨_, by rw [hE], ?_, ?_, HK6.out⟩
      · rw [Tells, hE, if_pos rfl]
        exact HT.out
      · rw [prepS, hE, if_pos rfl]
        exact ⟨vs, HA6.out, hvs⟩
end Go.Proofs.YtcaakiaenfkeaaaGreat.acch
/-
  An acceptor's Forget and Promised.
-/
namespace Go.Proofs.YtcaakiaenfkeaaaGreat.acce
open Go.ChangeShapes Go.WideShapes Go.ChangeAt Go.RowKit
open Go.Proofs.YtcaakiaenfkeaaaGreat.kit Go.Proofs.YtcaakiaenfkeaaaGreat.mapkit Go.Proofs.YtcaakiaenfkeaaaGreat.byt Go.Proofs.YtcaakiaenfkeaaaGreat.own Go.Proofs.YtcaakiaenfkeaaaGreat.accd Go.Proofs.YtcaakiaenfkeaaaGreat.acca Go.Proofs.YtcaakiaenfkeaaaGreat.accb Go.Proofs.YtcaakiaenfkeaaaGreat.acck Go.Proofs.YtcaakiaenfkeaaaGreat.accc
set_option linter.unusedVariables false
set_option linter.unusedSimpArgs false
set_option maxHeartbeats 1000000
set_option maxRecDepth 100000

theorem promised_any (w : World) (base b mb : Nat) (r n first : Int) (vs : List Vt) (h : AccAt w base b mb r n first vs) : Calls Tryz.prog 19 #[.pointer (some ⟨b, 0, none⟩)] w fun e w' => e = .returned (.agg #[.int .i64 r, .int .i64 n]) ∧ Below w.heap.size w w' := by
  have c0 : w.cell? ⟨b, 0, none⟩ = some (.int .i64 r) := (kit.blk h.blk).1 0
  have c1 : w.cell? ⟨b, 1, none⟩ = some (.int .i64 n) := (kit.blk h.blk).1 1
  have hz := (kit.blk h.blk).2.2
  go_enter Tryz.func19, Tryz.ntmps19
  go_wp2
  exact bodyPost_ret (v := .agg #[.int .i64 r, .int .i64 n]) (by simp [results, Tryz.results19, go_sem]) rfl ⟨rfl, below_new1 _ _⟩
/-- In the loop. -/
structure Mid (w wr : World) (b mb : Nat) (r n d : Int) (vs : List Vt) : Prop where
  blk : wr.heap[b]? = some (.cells #[.int .i64 r, .int .i64 n, .int .i64 d, .map (some mb)] 105 (0, 0))
  map : MapAt wr Tryz.prog 3 mb (accd.look vs) vs.length
  keep : Keep (fun k => k = b ∨ k = mb) w wr

theorem forget_at (w : World) (base b mb : Nat) (r n first d : Int) (vs : List Vt) (h : AccAt w base b mb r n first vs) (hd : fgt first d) :
    Calls Tryz.prog 75 #[.pointer (some ⟨b, 0, none⟩), .int .i64 d] w fun e w' => e = .returned (.int .i64 ((vs.length : Int) - (vs.filter (fun v => decide (d ≤ v.s))).length)) ∧ AccAt w' base b mb r n d (vs.filter (fun v => decide (d ≤ v.s))) ∧ Keep (fun k => k = b ∨ k = mb) w w' := by
  obtain ⟨hd1, hd2⟩ := hd
  have hone := h.one
  have hlen := h.len
  have hne := h.ne
  obtain ⟨c0, c1, c2, c3, cz⟩ := blk4 h.blk
  obtain ⟨f0, f1, f2, f3⟩ := blk4f h.blk
  have t1 : decide (d ≤ first) = false := decide_eq_false (by omega)
  have t1' : ¬ d ≤ first := by omega
  have t2 : decide ((1099511627776 : Int) < d) = false := decide_eq_false (by omega)
  have t2' : ¬ (1099511627776 : Int) < d := by omega
  obtain ⟨w1, hw1⟩ : ∃ w1 : World, w1 = w.setCell ⟨b, 2, none⟩ (.int .i64 d) := ⟨_, rfl⟩
  have hk1 : Keep (fun k => k = b ∨ k = mb) w w1 := by rw [hw1]; exact (Keep.refl _ w).setCell (p := ⟨b, 2, none⟩) (.inr (.inl rfl)) _
  have hb1 : w1.heap[b]? = some (.cells #[.int .i64 r, .int .i64 n, .int .i64 d, .map (some mb)] 105 (0, 0)) := by rw [hw1]; exact hp_set h.blk 2 _
  have hm1 : MapAt w1 Tryz.prog 3 mb (accd.look vs) vs.length := by rw [hw1]; exact h.map.set (fun e => hne e.symm) _
  have HH := Lib.hid h
  have HK1 := Lib.hid hk1
  have HB1 := Lib.hid hb1
  have HM1 := Lib.hid hm1
  have hln := MapAt.run_len (w := w.setCell ⟨b, 2, none⟩ (.int .i64 d)) (by rw [← hw1]; exact hm1) Tryz.underlying103 3
  obtain ⟨w2, hw2⟩ : ∃ w2 : World, w2 = w1.alloc (.cells #[.map (some mb)] 103) := ⟨_, rfl⟩
  have hb2 : Below w1.heap.size w1 w2 := by rw [hw2]; exact below_new1 _ _
  have hs2 : w2.heap.size = w1.heap.size + 1 := by rw [hw2, size_new]
  have hcl := collectC w2 w1.heap.size mb vs.length _ (hm1.below hb2) hlen (by rw [hw2]; exact hp_alloc_new _ _)
  have HC := Lib.hid hcl
  have HKC := Lib.hid (keysC (some mb) w1)
  have HB2 := Lib.hid hb2
  have HW2 := Lib.hid hw2
  have HW := Lib.hid hw1
  have hsz1 := hk1.size
  clear h hk1 hb1 hm1 hw1 hb2 hw2 hcl
  go_enter Tryz.func75, Tryz.ntmps75
  go_wp2_with fail
  rw [← HW.out]
  refine HKC.out.mono ?_; rintro e w' ⟨rfl, rfl⟩
  rw [← HW2.out]
  go_wp2_with fail
  refine HC.out.mono ?_; rintro e w3 ⟨v3, ss, rfl, hko, hrow, hb3⟩
  obtain ⟨a3, c3', rfl⟩ := own_shape hrow
  have hb13 := below_step HB2.out hb3
  have HM := Lib.hid (Mid.mk (hp_step HB1.out hb13) (HM1.out.below hb13) (HK1.out.trans (Keep.of_below hb13)))
  have HKO := Lib.hid hko
  have HROW := Lib.hid hrow
  have HOLD := Lib.hid (fun (wr : World) (hk : Mid w wr b mb r n d vs) => hk)
  have hsz3 := hb13.size
  have hss : ss.length ≤ 9223372036854775807 := by
    rcases hrow.2 with ⟨_, h0⟩ | ⟨g', c', cur, e', _, _, hc, hm, _⟩
    · omega
    · unfold maxLen at hm; omega
  clear hko hrow hb3 hb13 HC HKC c0 c1 c2 c3 cz f0 f1 f2 f3
  go_wp2_with fail
  go_loopw [38] (fun i wr => ∃ k : Nat, k ≤ ss.length ∧ i = .int .i64 k ∧ Hid (Mid w wr b mb r n d (past vs d (ss.take k))) ∧ Hid (Keep (fun k => k = b ∨ k = mb) w3 wr)) (fun i _ => ss.length - (RowKit.intOf i).toNat)
  case atStart => exact ⟨0, Nat.zero_le _, rfl, by rw [List.take_zero, past_nil]; exact HM, Keep.refl _ _⟩
  case round =>
    obtain ⟨k, hk, rfl, hM, hK⟩ := hrel
    obtain ⟨c0, c1, c2, c3, cz⟩ := blk4 hM.out.blk
    by_cases hlt : k < ss.length
    · obtain ⟨g3, rfl⟩ := own_ptr HROW.out (by omega)
      have hi := ints_cell (own_kept HROW.out (fun g hg => hK.out.block g (own_from HROW.out g hg).2 (fun hx => by have := (own_from HROW.out g hg).1; have := HH.out.map.lt; have := (kit.blk HH.out.blk).2.2; omega))) hlt
      have hmem : ss[k] ∈ vs.map (·.s) := look_some.1 ((HKO.out.2 _).1 (List.getElem_mem hlt))
      have hrg : first ≤ ss[k] ∧ ss[k] < first + 16 := by
        obtain ⟨v, hv, hvs⟩ := List.mem_map.1 hmem
        have := HH.out.rng v hv
        omega
      obtain ⟨w4, hdel, hm4, hg4⟩ := votes_delete hM.out.map (past_ord HH.out.ord d _) ss[k] (by omega) (by omega) 0
      have hst : past vs d (ss.take (k + 1)) = if ss[k] < d then del (past vs d (ss.take k)) ss[k] else past vs d (ss.take k) := by
        rw [List.take_succ_eq_append_getElem hlt, past_step]
      have hk4 : Keep (fun k => k = b ∨ k = mb) wr w4 := ⟨hg4.os, hg4.tape, hg4.output, hg4.size, fun k hk hn => hg4.block k hk (fun e => hn (.inr (Option.some.inj e)))⟩
      have hb4 := (hg4.block b cz (fun e => hne (Option.some.inj e))).trans hM.out.blk
      have HM4 := Lib.hid (show Mid w w4 b mb r n d (del (past vs d (ss.take k)) ss[k]) from ⟨hb4, hm4, hM.out.keep.trans hk4⟩)
      have HK4 := Lib.hid (hK.out.trans' hk4 (fun _ _ h => h))
      have HST := Lib.hid hst
      obtain ⟨s, hs⟩ : ∃ s, s = ss[k] := ⟨_, rfl⟩
      rw [← hs] at hi hdel HM4 HST hrg
      clear hmem hm4 hg4 hst hk4 hb4 hs
      by_cases hsd : s < d
      · rw [if_pos hsd] at HST
        have u1 : decide (s < d) = true := decide_eq_true hsd
        go_wp2_with fail
        go_roundw
        case rel => exact ⟨k + 1, by omega, by go_num, by rw [HST.out]; exact HM4, HK4⟩
        case measure => simp [RowKit.intOf]; omega
      · rw [if_neg hsd] at HST
        have u1 : decide (s < d) = false := decide_eq_false hsd
        clear hdel
        go_wp2_with fail
        go_roundw
        case rel => exact ⟨k + 1, by omega, by go_num, by rw [HST.out]; exact hM, hK⟩
        case measure => simp [RowKit.intOf]; omega
    · obtain rfl : k = ss.length := by omega
      rw [List.take_length, past_all HKO.out] at hM
      have hl2 := MapAt.run_len hM.out.map Tryz.underlying103 3
      have hfl : (vs.filter (fun v => decide (d ≤ v.s))).length ≤ vs.length := List.length_filter_le _ _
      have HM9 := Lib.hid hM.out
      have hbl : ∀ v ∈ vs, accd.Body wr base v := fun v hv => HH.out.row HM9.out.keep (HH.out.bodies v hv) (by decide)
      have HAC := Lib.hid (show AccAt wr base b mb r n d (vs.filter (fun v => decide (d ≤ v.s))) from ⟨HM9.out.blk, HM9.out.map, HH.out.lo, List.Pairwise.filter _ HH.out.ord, ⟨by omega, by omega⟩, fun v hv => by
        have h1 := List.mem_filter.1 hv
        have := HH.out.rng v h1.1
        have h2 : d ≤ v.s := by simpa using h1.2
        omega, fun v hv => HH.out.fit v (List.mem_filter.1 hv).1, fun v hv => hbl v (List.mem_filter.1 hv).1⟩)
      clear hbl hM hK
      go_wp2_with fail
      go_ret
      exact ⟨by first | rfl | simp, HAC.out, HM9.out.keep⟩
theorem forget_no (w : World) (base b mb : Nat) (r n first d : Int) (vs : List Vt) (h : AccAt w base b mb r n first vs) (hd : ¬ fgt first d) :
    Calls Tryz.prog 75 #[.pointer (some ⟨b, 0, none⟩), .int .i64 d] w fun e w' => e = .returned (.int .i64 0) ∧ w = w' := by
  obtain ⟨c0, c1, c2, c3, cz⟩ := blk4 h.blk
  clear h
  by_cases h1 : d ≤ first
  · have t1 : decide (d ≤ first) = true := decide_eq_true h1
    go_enter Tryz.func75, Tryz.ntmps75
    go_wp2_with fail
    go_ret
    exact ⟨rfl, rfl⟩
  · have h2 : (1099511627776 : Int) < d := by unfold fgt at hd; omega
    have t1 : decide (d ≤ first) = false := decide_eq_false h1
    have t2 : decide ((1099511627776 : Int) < d) = true := decide_eq_true h2
    go_enter Tryz.func75, Tryz.ntmps75
    go_wp2_with fail
    go_ret
    exact ⟨rfl, rfl⟩
theorem forget_ok (w : World) (base b mb : Nat) (A : AS) (d : Int) (h : AccIs w base b mb A) :
    Calls Tryz.prog 75 #[.pointer (some ⟨b, 0, none⟩), .int .i64 d] w fun e w' => e = .returned (.int .i64 (forgetE A d)) ∧ AccIs w' base b mb (forgetS A d) ∧ Keep (fun k => k = b ∨ k = mb) w w' := by
  obtain ⟨vs, h1, h2⟩ := h
  by_cases hd : fgt A.first d
  · refine (forget_at w base b mb _ _ _ d vs h1 hd).mono ?_
    rintro e w' ⟨rfl, hA, hk⟩
    rw [forgetE, forgetS, if_pos hd, if_pos hd, ← h2, ← from_lv, List.length_map, List.length_map]
    exact ⟨rfl, ⟨_, hA, rfl⟩, hk⟩
  · refine (forget_no w base b mb _ _ _ d vs h1 hd).mono ?_
    rintro e w' ⟨rfl, rfl⟩
    rw [forgetE, forgetS, if_neg hd, if_neg hd]
    exact ⟨rfl, ⟨vs, h1, h2⟩, Keep.refl _ _⟩
theorem promised_ok (w : World) (base b mb : Nat) (A : AS) (h : AccIs w base b mb A) : Calls Tryz.prog 19 #[.pointer (some ⟨b, 0, none⟩)] w fun e w' => e = .returned (.agg #[.int .i64 A.r, .int .i64 A.n]) ∧ Below w.heap.size w w' := by
  obtain ⟨vs, h1, h2⟩ := h
  exact promised_any w base b mb _ _ _ vs h1
end Go.Proofs.YtcaakiaenfkeaaaGreat.acce
/-
  Layer 13 as data: what a member is, and what its functions do (no memory).
-/
namespace Go.Proofs.YtcaakiaenfkeaaaGreat.pep
open Go.Proofs.YtcaakiaenfkeaaaGreat.accd Go.Proofs.YtcaakiaenfkeaaaGreat.accb Go.Proofs.YtcaakiaenfkeaaaGreat.acce Go.Proofs.YtcaakiaenfkeaaaGreat.acch Go.Proofs.YtcaakiaenfkeaaaGreat.chp Go.Proofs.YtcaakiaenfkeaaaGreat.chq
open Go.Proofs.YtcaakiaenfkeaaaGreat.bal (enoughB)
set_option linter.unusedVariables false
set_option linter.unusedSimpArgs false

/-- A ballot: round, node. -/
abbrev Bl := Int × Int
def zb : Bl := (0, 0)
def ltB (a b : Bl) : Bool := bal.lessB a.1 a.2 b.1 b.2
def mostB (a b : Bl) : Bl := if ltB a b then b else a
def farI : Int := 1099511627776
/-- What a candidate has heard of a member. -/
structure Pm where
  done : Bool
  fr : Int
  commit : Int
  votes : List V4
def pm0 : Pm := ⟨false, 0, 0, []⟩
/-- A note: its kind, and what it notes. -/
structure Nt where
  kind : Int
  b : Bl
  v : V4
  e : Int × List Nat
def v40 : V4 := ⟨0, 0, 0, []⟩
def Nt.prom (b : Bl) : Nt := ⟨1, b, v40, (0, [])⟩
def Nt.vote (v : V4) : Nt := ⟨2, zb, v, (0, [])⟩
def Nt.entry (s : Int) (d : List Nat) : Nt := ⟨3, zb, v40, (s, d)⟩
def Nt.image (s : Int) (d : List Nat) : Nt := ⟨4, zb, v40, (s, d)⟩
/-- A box of pieces. -/
structure Bx where
  tot : Int
  sum : Nat
  get : Nat → Option (List Nat)
/-- A piece. -/
structure Pz where
  at_ : Int
  of_ : Int
  sum : Nat
  data : List Nat
def pz0 : Pz := ⟨0, 0, 0, []⟩
/-- A letter. -/
structure Lt where
  kind : Int
  fr : Int
  dst : Int
  b : Bl
  slot : Int
  commit : Int
  votes : List V4
  ents : List (Int × List Nat)
  piece : Pz
def lt0 : Lt := ⟨0, 0, 0, zb, 0, 0, [], [], pz0⟩
/-- What a leader has open. -/
structure Ol where
  first : Int
  cells : List (Option (List Nat × List Int))
/-- A member. -/
structure PD where
  node : Int
  nodes : Int
  A : AS
  seen : Bl
  heard : Bl
  index : Int
  image : List Nat
  entries : List (Int × List Nat)
  own : Bl
  leads : Bool
  prom : Nat → Pm
  opn : Option Ol
  todo : List (Int × List Nat)
  next : Int
  taken : Int
  parc : Nat → Int × Option Bx
  notes : List Nt
  letters : List Lt
  chosen : List (Int × List Nat)
  rindex : Int
  rimage : List Nat
def PD.promised (P : PD) : Bl := (P.A.r, P.A.n)
def PD.commit (P : PD) : Int := P.index + P.entries.length
def PD.note (P : PD) (n : Nt) : PD := { P with notes := P.notes ++ [n] }
def PD.tell (P : PD) (dst : Int) (l : Lt) : PD := { P with letters := P.letters ++ [{ l with fr := P.node, dst := dst }] }
/-- The nodes 1 .. n. -/
def upTo (n : Nat) : List Int := (List.range n).map fun k : Nat => (k : Int) + 1
def PD.others (P : PD) (l : Lt) : PD := (upTo P.nodes.toNat).foldl (fun P d => if d = P.node then P else P.tell d l) P
def PD.candidate (P : PD) : Bool := !(P.own == zb) && !P.leads
def PD.behind (P : PD) : Nat := ((List.range 6).find? fun i => (P.prom i).done && decide (P.commit < (P.prom i).commit)).getD 0
def PD.ask (P : PD) (dst : Int) : PD := P.tell dst { lt0 with kind := 7, slot := P.commit + 1 }
/-- What is open: fetched, put, cut, run. -/
def Ol.get (L : Ol) (s : Int) : Option (List Nat × List Int) := if s < L.first then none else (L.cells[(s - L.first).toNat]?).join
def Ol.putE (L : Ol) (s : Int) : Int := if s < L.first then 80 else if 1024 ≤ s - L.first then 81 else 0
def Ol.put (L : Ol) (s : Int) (v : List Nat × List Int) : Ol := if L.putE s = 0 then ⟨L.first, (L.cells ++ List.replicate ((s - L.first).toNat + 1 - L.cells.length) none).set (s - L.first).toNat (some v)⟩ else L
def Ol.cut (L : Ol) (s : Int) : Ol := if s ≤ L.first ∨ farI < s then L else ⟨s, L.cells.drop (s - L.first).toNat⟩
/-- The filled places from the first on, up to the first that is not: each with its slot. -/
def runOf : Int → List (Option (List Nat × List Int)) → List (Int × (List Nat × List Int))
  | s, some v :: l => (s, v) :: runOf (s + 1) l
  | _, _ => []
def allOf : Int → List (Option (List Nat × List Int)) → List (Int × (List Nat × List Int))
  | s, some v :: l => (s, v) :: allOf (s + 1) l
  | s, none :: l => allOf (s + 1) l
  | _, [] => []
/-- The commit has gone on. -/
def PD.settled (P : PD) : PD :=
  let first := P.commit + 1
  let P := { P with A := forgetS P.A first }
  if P.leads then { P with opn := P.opn.map fun L => L.cut first, next := max P.next first } else P
def PD.chose (P : PD) (s : Int) (d : List Nat) : PD :=
  ({ P with entries := P.entries ++ [(s, d)], chosen := P.chosen ++ [(s, d)], notes := P.notes ++ [.entry s d] } : PD).settled
def PD.offer (P : PD) (dst : Int) (s : Int) (d : List Nat) : PD :=
  P.tell dst { lt0 with kind := 3, b := P.own, slot := s, commit := if 0 < P.taken then 0 else P.commit, ents := [(s, d)] }
def PD.offers (P : PD) (s : Int) (d : List Nat) : PD := (upTo P.nodes.toNat).foldl (fun P k => if k = P.node then P else P.offer k s d) P
/-- One thing to do is proposed: none: it has to wait. -/
def PD.prop1 (P : PD) : Option PD :=
  match P.todo with
  | [] => none
  | (s, d) :: l =>
    if s ≤ P.commit then some { P with todo := l }
    else
      let v : V4 := ⟨s, P.own.1, P.own.2, d⟩
      if accE P.A.r P.A.n P.A.first v ≠ 0 then none
      else
        let P1 := { P with A := accS P.A v }
        match P.opn with
        | none => none
        | some L =>
          if L.putE s ≠ 0 then none
          else some (({ P1 with opn := some (L.put s (d, [P.node])), todo := l } : PD).note (.vote v) |>.offers s d)
/-- The things to do, as far as there is room. -/
def PD.props : Nat → PD → PD
  | 0, P => P
  | n + 1, P => match P.prop1 with
    | none => P
    | some P' => PD.props n P'
/-- What is chosen of what is open. -/
def PD.wins (P : PD) : List (Int × (List Nat × List Int)) :=
  match P.opn with
  | none => []
  | some L => (runOf L.first L.cells).takeWhile fun x => enoughB P.nodes x.2.2
def PD.choseAll (P : PD) (l : List (Int × (List Nat × List Int))) : PD := l.foldl (fun P x => P.chose x.1 x.2.1) P
mutual
def PD.propose : Nat → PD → PD
  | 0, P => P
  | n + 1, P => PD.advance n (PD.props P.todo.length P)
def PD.advance : Nat → PD → PD
  | 0, P => P
  | n + 1, P =>
    if P.leads then
      let Q := P.choseAll P.wins
      if P.commit < Q.commit ∧ 0 < Q.todo.length then PD.propose n Q else Q
    else P
end
/-- How deep propose and advance may go. -/
def PD.fuel (P : PD) : Nat := 2 * (P.todo.length + (match P.opn with | none => 0 | some L => (L.cells.filter Option.isSome).length)) + 4
def PD.rest (P : PD) : PD := { P with own := zb, leads := false, opn := none, todo := [], prom := fun _ => pm0 }
def PD.who (P : PD) : List Nat := (List.range 6).filter fun i => (P.prom i).done
def v4v (v : V4) : V := ⟨v.s, v.r, v.n, v.l⟩
def PD.proms (P : PD) : List Pr := P.who.map fun i : Nat => ⟨(i : Int), ((if (i : Int) = P.node then P.A.vs else (P.prom i).votes)).map v4v⟩
def PD.elect (P : PD) : PD :=
  if P.candidate = false then P
  else if enoughB P.nodes (P.who.map fun i : Nat => (i : Int)) = false then P
  else if P.behind ≠ 0 then P.ask P.behind
  else if openE P.nodes (P.commit + 1) P.proms ≠ 0 then P
  else
    let todo := openL P.nodes (P.commit + 1) P.proms
    let Q : PD := { P with leads := true, taken := 0, opn := some ⟨min (max (P.commit + 1) 1) farI, []⟩, todo := todo, next := P.commit + 1 + todo.length }
    PD.propose Q.fuel Q
/-- The next ballot. -/
def PD.nextBal (P : PD) : Bl := (max ((mostB P.promised P.seen).1 + 1) 1, P.node)
def PD.draw (P : PD) : PD :=
  let b := P.nextBal
  let P := P.rest
  let fr := P.commit + 1
  let P : PD := { P with own := b, seen := b, A := prepS P.A b.1 b.2 }
  let P := P.note (.prom b)
  let P : PD := { P with prom := fun i => ⟨decide ((i : Int) = P.node), fr, 0, []⟩ }
  (P.others { lt0 with kind := 1, b := b, slot := fr }).elect
/-- What Ready leaves. -/
def PD.clear (P : PD) : PD := { P with notes := [], letters := [], chosen := [], rindex := 0, rimage := [] }
def PD.proposeE (P : PD) (d : List Nat) : Int :=
  if d.length < 1 ∨ 2048 < d.length then 22 else if P.leads = false then 130 else if 16 ≤ P.next - P.commit - 1 then 3 else 0
def PD.proposeS (P : PD) (d : List Nat) : PD :=
  if P.proposeE d ≠ 0 then P
  else
    let Q : PD := { P with todo := P.todo ++ [(P.next, d)], next := P.next + 1 }
    PD.propose Q.fuel Q
end Go.Proofs.YtcaakiaenfkeaaaGreat.pep
/-
  What all may read: bytes, rows of things.
-/
namespace Go.Proofs.YtcaakiaenfkeaaaGreat.peb
open Go.ChangeShapes Go.WideShapes Go.ChangeAt Go.RowKit
open Go.Proofs.YtcaakiaenfkeaaaGreat.kit Go.Proofs.YtcaakiaenfkeaaaGreat.byt Go.Proofs.YtcaakiaenfkeaaaGreat.own Go.Proofs.YtcaakiaenfkeaaaGreat.accd Go.Proofs.YtcaakiaenfkeaaaGreat.chd Go.Proofs.YtcaakiaenfkeaaaGreat.che Go.Proofs.YtcaakiaenfkeaaaGreat.ownr Go.Proofs.YtcaakiaenfkeaaaGreat.pep
set_option linter.unusedVariables false
set_option linter.unusedSimpArgs false

/-- A slice: where it lies, its capacity, what it holds. -/
structure Sl (α : Type) where
  a : Option Addr
  c : Nat
  l : List α
def Sl.val {α : Type} (s : Sl α) : Value := .slice s.a s.l.length s.c
def sl0 {α : Type} : Sl α := ⟨none, 0, []⟩
/-- Bytes that nobody writes. -/
structure RoB (w : World) (s : Sl Nat) : Prop where
  nil : s.a = none → s.l.length = 0 ∧ s.c = 0
  len : s.l.length ≤ 140737488355328
  byt : Byt s.l
  lie : Lie w s.a (bcells s.l)
  blk : ∀ g off, s.a = some ⟨g, off, none⟩ → ∃ cs, w.heap[g]? = some (.cells cs 5 (0, 0))
theorem RoB.kept {w w' : World} {s : Sl Nat} (h : RoB w s) (hs : w.heap.size ≤ w'.heap.size) (hk : Kept Still w w') : RoB w' s :=
  ⟨h.nil, h.len, h.byt, lie_same h.lie hs (fun g off hg => by obtain ⟨cs, hc⟩ := h.blk g off hg; rw [hc]; exact hk g cs _ (.inl rfl) hc), fun g off hg => by obtain ⟨cs, hc⟩ := h.blk g off hg; exact ⟨cs, hk g cs _ (.inl rfl) hc⟩⟩
theorem RoB.fr {S : Tag → Prop} {w w' : World} {O O' : Owners} {s : Sl Nat} (h : RoB w s) (f : Fr S w O w' O') : RoB w' s := h.kept f.size f.byt
theorem RoB.below {w w' : World} {s : Sl Nat} (h : RoB w s) (hb : Below w.heap.size w w') : RoB w' s := h.kept hb.size (kept_below hb)
theorem rob_nil (w : World) : RoB w sl0 := ⟨fun _ => ⟨rfl, rfl⟩, by simp [sl0], by intro x hx; simp [sl0] at hx, .inl rfl, by simp [sl0]⟩
theorem rob_own {w : World} {base n c : Nat} {a : Option Addr} {l : List Nat} (h : w.ownsRow base 5 1 (.slice a n c) n (bcells l)) (hn : n = l.length) (hl : l.length ≤ 140737488355328) (hb : Byt l) : RoB w ⟨a, c, l⟩ := by
  subst hn
  obtain ⟨ao, cap, e, h1, h2, h3⟩ := owned_lie h
  simp only [Value.slice.injEq, true_and] at e
  obtain ⟨rfl, rfl⟩ := e
  refine ⟨h1, hl, hb, h2, fun g off hg => ?_⟩
  rcases h.2 with ⟨e', _⟩ | ⟨g', cap', cur, e', _, hh, _⟩
  · simp only [Value.slice.injEq] at e'; have e'' : a = some ⟨g, off, none⟩ := hg; rw [e''] at e'; simp at e'
  · simp only [Value.slice.injEq] at e'
    have e'' : a = some ⟨g, off, none⟩ := hg
    rw [e''] at e'
    simp only [Option.some.injEq, Addr.mk.injEq] at e'
    obtain ⟨⟨rfl, _⟩, _⟩ := e'
    exact ⟨cur, hh⟩
/-- A row of things that nobody writes. -/
structure RoRow (w : World) (O : Owners) (a : Option Addr) (c size : Nat) (L : List (List Value)) : Prop where
  nil : a = none → L.length = 0 ∧ c = 0
  row : RowsAt w a size L
  tag : ∀ g off, a = some ⟨g, off, none⟩ → O g = ro ∧ g < w.heap.size
theorem rows_same {w w' : World} {a : Option Addr} {size : Nat} {L : List (List Value)} (h : RowsAt w a size L) (hs : w.heap.size ≤ w'.heap.size) (hk : ∀ g off, a = some ⟨g, off, none⟩ → w'.heap[g]? = w.heap[g]?) : RowsAt w' a size L := by
  rcases h with h | ⟨b, off, h1, h2, h3⟩
  · exact .inl h
  · refine .inr ⟨b, off, h1, by omega, fun i hi j hj => ?_⟩
    rw [← h3 i hi j hj]
    exact World.cell?_of_block (hk b off h1)
theorem RoRow.fr {S : Tag → Prop} {w w' : World} {O O' : Owners} {a : Option Addr} {c size : Nat} {L : List (List Value)} (h : RoRow w O a c size L) (hS : ¬ S ro) (f : Fr S w O w' O') : RoRow w' O' a c size L :=
  ⟨h.nil, rows_same h.row f.size (fun g off hg => f.same g (h.tag g off hg).2 (by rw [(h.tag g off hg).1]; exact hS)), fun g off hg => ⟨(f.own g (h.tag g off hg).2).trans (h.tag g off hg).1, Nat.lt_of_lt_of_le (h.tag g off hg).2 f.size⟩⟩
theorem rorow_nil (w : World) (O : Owners) (size : Nat) : RoRow w O none 0 size [] := ⟨fun _ => ⟨rfl, rfl⟩, .inl rfl, by simp⟩
end Go.Proofs.YtcaakiaenfkeaaaGreat.peb
/-
  A member's boxes, in a seat in which none is ever made.
-/
namespace Go.Proofs.YtcaakiaenfkeaaaGreat.peb
open Go.RowKit
open Go.Proofs.YtcaakiaenfkeaaaGreat.ownr Go.Proofs.YtcaakiaenfkeaaaGreat.pep
set_option linter.unusedVariables false

structure BoxM where
  b : Nat
def BoxM.dat (x : BoxM) : Bx := ⟨0, 0, fun _ => none⟩
def BoxOk (w : World) (O : Owners) (t : Tag) (x : BoxM) : Prop := False
theorem BoxOk.fr {S : Tag → Prop} {w w' : World} {O O' : Owners} {t : Tag} {x : BoxM} (h : BoxOk w O t x) (hS : ¬ S t) (f : Fr S w O w' O') : BoxOk w' O' t x := h
end Go.Proofs.YtcaakiaenfkeaaaGreat.peb
