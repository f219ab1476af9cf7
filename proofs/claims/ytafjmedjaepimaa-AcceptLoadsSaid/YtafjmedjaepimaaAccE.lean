/-
  An acceptor's Forget.
-/
import Derived.Test.YtafjmedjaepimaaAccC
namespace Go.Proofs.Ytafjmedjaepimaa.acce
open Go.ChangeShapes Go.WideShapes Go.ChangeAt Go.RowKit
open Go.Proofs.Ytafjmedjaepimaa.kit Go.Proofs.Ytafjmedjaepimaa.mapkit Go.Proofs.Ytafjmedjaepimaa.byt Go.Proofs.Ytafjmedjaepimaa.own Go.Proofs.Ytafjmedjaepimaa.accd Go.Proofs.Ytafjmedjaepimaa.acca Go.Proofs.Ytafjmedjaepimaa.accb Go.Proofs.Ytafjmedjaepimaa.acck Go.Proofs.Ytafjmedjaepimaa.accc
set_option linter.unusedVariables false
set_option linter.unusedSimpArgs false
set_option maxHeartbeats 1000000
set_option maxRecDepth 100000

def fgt (first d : Int) : Prop := first < d ∧ d ≤ 1099511627776
instance (first d : Int) : Decidable (fgt first d) := inferInstanceAs (Decidable (_ ∧ _))
def from4 (vs : List V4) (d : Int) : List V4 := vs.filter (fun v => decide (d ≤ v.s))
def forgetS (A : AS) (d : Int) : AS := if fgt A.first d then ⟨A.r, A.n, d, from4 A.vs d⟩ else A
def forgetE (A : AS) (d : Int) : Int := if fgt A.first d then (A.vs.length : Int) - (from4 A.vs d).length else 0
/-- What is left when the keys ts have been looked at. -/
def past (vs : List Vt) (d : Int) (ts : List Int) : List Vt := vs.filter (fun v => !(decide (v.s < d) && ts.contains v.s))
theorem past_nil (vs : List Vt) (d : Int) : past vs d [] = vs := by simp [past]
theorem past_step (vs : List Vt) (d : Int) (ts : List Int) (s : Int) : past vs d (ts ++ [s]) = if s < d then del (past vs d ts) s else past vs d ts := by
  by_cases h : s < d
  · rw [if_pos h, del, past, past, List.filter_filter]
    congr 1
    funext v
    by_cases hv : v.s = s
    · simp [hv, h]
    · simp [hv]
  · rw [if_neg h, past, past]
    refine List.filter_congr (fun v _ => ?_)
    by_cases hv : v.s = s
    · simp [hv, h]
    · simp [hv]
theorem past_all {vs : List Vt} {d : Int} {ss : List Int} (h : KeysOf (accd.look vs) ss) : past vs d ss = vs.filter (fun v => decide (d ≤ v.s)) := by
  refine List.filter_congr (fun v hv => ?_)
  have : v.s ∈ ss := (h.2 v.s).2 (look_some.2 (List.mem_map_of_mem hv))
  have h2 : ss.contains v.s = true := by simpa using this
  rw [h2, Bool.and_true]
  by_cases hd : v.s < d
  · simp [hd]
  · simp [hd]; omega
theorem past_ord {vs : List Vt} (h : Ord vs) (d : Int) (ts : List Int) : Ord (past vs d ts) := List.Pairwise.filter _ h

/-- In the loop. -/
structure Mid (w wr : World) (b mb : Nat) (r n d : Int) (vs : List Vt) : Prop where
  blk : wr.heap[b]? = some (.cells #[.int .i64 r, .int .i64 n, .int .i64 d, .map (some mb)] 63 (0, 0))
  map : MapAt wr Try.prog 3 mb (accd.look vs) vs.length
  keep : Keep (fun k => k = b ∨ k = mb) w wr

theorem forget_at (w : World) (base b mb : Nat) (r n first d : Int) (vs : List Vt) (h : AccAt w base b mb r n first vs) (hd : fgt first d) :
    Calls Try.prog 13 #[.pointer (some ⟨b, 0, none⟩), .int .i64 d] w fun e w' => e = .returned (.int .i64 ((vs.length : Int) - (vs.filter (fun v => decide (d ≤ v.s))).length)) ∧ AccAt w' base b mb r n d (vs.filter (fun v => decide (d ≤ v.s))) ∧ Keep (fun k => k = b ∨ k = mb) w w' := by
  obtain ⟨hd1, hd2⟩ := hd
  have hone := h.one
  have hlen := h.len
  have hne := h.ne
  obtain ⟨c0, c1, c2, c3, cz⟩ := blk4 h.blk
  obtain ⟨f0, f1, f2, f3⟩ := blk4f h.blk
  have t1 : decide (d ≤ first) = false := decide_eq_false (by omega)
  have t1' : ¬ d ≤ first := by omega
  have t2 : decide ((1099511627776 : Int) < d) = false := decide_eq_false (by omega)
  have t2' : ¬ (1099511627776 : Int) < d := by omega
  obtain ⟨w1, hw1⟩ : ∃ w1 : World, w1 = w.setCell ⟨b, 2, none⟩ (.int .i64 d) := ⟨_, rfl⟩
  have hk1 : Keep (fun k => k = b ∨ k = mb) w w1 := by rw [hw1]; exact (Keep.refl _ w).setCell (p := ⟨b, 2, none⟩) (.inr (.inl rfl)) _
  have hb1 : w1.heap[b]? = some (.cells #[.int .i64 r, .int .i64 n, .int .i64 d, .map (some mb)] 63 (0, 0)) := by rw [hw1]; exact hp_set h.blk 2 _
  have hm1 : MapAt w1 Try.prog 3 mb (accd.look vs) vs.length := by rw [hw1]; exact h.map.set (fun e => hne e.symm) _
  have HH := Lib.hid h
  have HK1 := Lib.hid hk1
  have HB1 := Lib.hid hb1
  have HM1 := Lib.hid hm1
  have hln := MapAt.run_len (w := w.setCell ⟨b, 2, none⟩ (.int .i64 d)) (by rw [← hw1]; exact hm1) Try.underlying61 3
  obtain ⟨w2, hw2⟩ : ∃ w2 : World, w2 = w1.alloc (.cells #[.map (some mb)] 61) := ⟨_, rfl⟩
  have hb2 : Below w1.heap.size w1 w2 := by rw [hw2]; exact below_new1 _ _
  have hs2 : w2.heap.size = w1.heap.size + 1 := by rw [hw2, size_new]
  have hcl := collectC w2 w1.heap.size mb vs.length _ (hm1.below hb2) hlen (by rw [hw2]; exact hp_alloc_new _ _)
  have HC := Lib.hid hcl
  have HKC := Lib.hid (keysC (some mb) w1)
  have HB2 := Lib.hid hb2
  have HW2 := Lib.hid hw2
  have HW := Lib.hid hw1
  have hsz1 := hk1.size
  clear h hk1 hb1 hm1 hw1 hb2 hw2 hcl
  go_enter Try.func13, Try.ntmps13
  go_wp2_with fail
  rw [← HW.out]
  refine HKC.out.mono ?_; rintro e w' ⟨rfl, rfl⟩
  rw [← HW2.out]
  go_wp2_with fail
  refine HC.out.mono ?_; rintro e w3 ⟨v3, ss, rfl, hko, hrow, hb3⟩
  obtain ⟨a3, c3', rfl⟩ := own_shape hrow
  have hb13 := below_step HB2.out hb3
  have HM := Lib.hid (Mid.mk (hp_step HB1.out hb13) (HM1.out.below hb13) (HK1.out.trans (Keep.of_below hb13)))
  have HKO := Lib.hid hko
  have HROW := Lib.hid hrow
  have HOLD := Lib.hid (fun (wr : World) (hk : Mid w wr b mb r n d vs) => hk)
  have hsz3 := hb13.size
  have hss : ss.length ≤ 9223372036854775807 := by
    rcases hrow.2 with ⟨_, h0⟩ | ⟨g', c', cur, e', _, _, hc, hm, _⟩
    · omega
    · unfold maxLen at hm; omega
  clear hko hrow hb3 hb13 HC HKC c0 c1 c2 c3 cz f0 f1 f2 f3
  go_wp2_with fail
  go_loopw [38] (fun i wr => ∃ k : Nat, k ≤ ss.length ∧ i = .int .i64 k ∧ Hid (Mid w wr b mb r n d (past vs d (ss.take k))) ∧ Hid (Keep (fun k => k = b ∨ k = mb) w3 wr)) (fun i _ => ss.length - (RowKit.intOf i).toNat)
  case atStart => exact ⟨0, Nat.zero_le _, rfl, by rw [List.take_zero, past_nil]; exact HM, Keep.refl _ _⟩
  case round =>
    obtain ⟨k, hk, rfl, hM, hK⟩ := hrel
    obtain ⟨c0, c1, c2, c3, cz⟩ := blk4 hM.out.blk
    by_cases hlt : k < ss.length
    · obtain ⟨g3, rfl⟩ := own_ptr HROW.out (by omega)
      have hi := ints_cell (own_kept HROW.out (fun g hg => hK.out.block g (own_from HROW.out g hg).2 (fun hx => by have := (own_from HROW.out g hg).1; have := HH.out.map.lt; have := (kit.blk HH.out.blk).2.2; omega))) hlt
      have hmem : ss[k] ∈ vs.map (·.s) := look_some.1 ((HKO.out.2 _).1 (List.getElem_mem hlt))
      have hrg : first ≤ ss[k] ∧ ss[k] < first + 16 := by
        obtain ⟨v, hv, hvs⟩ := List.mem_map.1 hmem
        have := HH.out.rng v hv
        omega
      obtain ⟨w4, hdel, hm4, hg4⟩ := votes_delete hM.out.map (past_ord HH.out.ord d _) ss[k] (by omega) (by omega) 0
      have hst : past vs d (ss.take (k + 1)) = if ss[k] < d then del (past vs d (ss.take k)) ss[k] else past vs d (ss.take k) := by
        rw [List.take_succ_eq_append_getElem hlt, past_step]
      have hk4 : Keep (fun k => k = b ∨ k = mb) wr w4 := ⟨hg4.os, hg4.tape, hg4.output, hg4.size, fun k hk hn => hg4.block k hk (fun e => hn (.inr (Option.some.inj e)))⟩
      have hb4 := (hg4.block b cz (fun e => hne (Option.some.inj e))).trans hM.out.blk
      have HM4 := Lib.hid (show Mid w w4 b mb r n d (del (past vs d (ss.take k)) ss[k]) from ⟨hb4, hm4, hM.out.keep.trans hk4⟩)
      have HK4 := Lib.hid (hK.out.trans' hk4 (fun _ _ h => h))
      have HST := Lib.hid hst
      obtain ⟨s, hs⟩ : ∃ s, s = ss[k] := ⟨_, rfl⟩
      rw [← hs] at hi hdel HM4 HST hrg
      clear hmem hm4 hg4 hst hk4 hb4 hs
      by_cases hsd : s < d
      · rw [if_pos hsd] at HST
        have u1 : decide (s < d) = true := decide_eq_true hsd
        go_wp2_with fail
        go_roundw
        case rel => exact ⟨k + 1, by omega, by go_num, by rw [HST.out]; exact HM4, HK4⟩
        case measure => simp [RowKit.intOf]; omega
      · rw [if_neg hsd] at HST
        have u1 : decide (s < d) = false := decide_eq_false hsd
        clear hdel
        go_wp2_with fail
        go_roundw
        case rel => exact ⟨k + 1, by omega, by go_num, by rw [HST.out]; exact hM, hK⟩
        case measure => simp [RowKit.intOf]; omega
    · obtain rfl : k = ss.length := by omega
      rw [List.take_length, past_all HKO.out] at hM
      have hl2 := MapAt.run_len hM.out.map Try.underlying61 3
      have hfl : (vs.filter (fun v => decide (d ≤ v.s))).length ≤ vs.length := List.length_filter_le _ _
      have HM9 := Lib.hid hM.out
      have hbl : ∀ v ∈ vs, accd.Body wr base v := fun v hv => HH.out.row HM9.out.keep (HH.out.bodies v hv) (by decide)
      have HAC := Lib.hid (show AccAt wr base b mb r n d (vs.filter (fun v => decide (d ≤ v.s))) from ⟨HM9.out.blk, HM9.out.map, HH.out.lo, List.Pairwise.filter _ HH.out.ord, ⟨by omega, by omega⟩, fun v hv => by
        have h1 := List.mem_filter.1 hv
        have := HH.out.rng v h1.1
        have h2 : d ≤ v.s := by simpa using h1.2
        omega, fun v hv => HH.out.fit v (List.mem_filter.1 hv).1, fun v hv => hbl v (List.mem_filter.1 hv).1⟩)
      clear hbl hM hK
      go_wp2_with fail
      go_ret
      exact ⟨by first | rfl | simp, HAC.out, HM9.out.keep⟩
theorem forget_no (w : World) (base b mb : Nat) (r n first d : Int) (vs : List Vt) (h : AccAt w base b mb r n first vs) (hd : ¬ fgt first d) :
    Calls Try.prog 13 #[.pointer (some ⟨b, 0, none⟩), .int .i64 d] w fun e w' => e = .returned (.int .i64 0) ∧ w = w' := by
  obtain ⟨c0, c1, c2, c3, cz⟩ := blk4 h.blk
  clear h
  by_cases h1 : d ≤ first
  · have t1 : decide (d ≤ first) = true := decide_eq_true h1
    go_enter Try.func13, Try.ntmps13
    go_wp2_with fail
    go_ret
    exact ⟨rfl, rfl⟩
  · have h2 : (1099511627776 : Int) < d := by unfold fgt at hd; omega
    have t1 : decide (d ≤ first) = false := decide_eq_false h1
    have t2 : decide ((1099511627776 : Int) < d) = true := decide_eq_true h2
    go_enter Try.func13, Try.ntmps13
    go_wp2_with fail
    go_ret
    exact ⟨rfl, rfl⟩
theorem from_lv (vs : List Vt) (d : Int) : (vs.filter (fun v => decide (d ≤ v.s))).map lv = from4 (vs.map lv) d := by
  rw [from4, List.filter_map]
  rfl
theorem forget_ok (w : World) (base b mb : Nat) (A : AS) (d : Int) (h : AccIs w base b mb A) :
    Calls Try.prog 13 #[.pointer (some ⟨b, 0, none⟩), .int .i64 d] w fun e w' => e = .returned (.int .i64 (forgetE A d)) ∧ AccIs w' base b mb (forgetS A d) ∧ Keep (fun k => k = b ∨ k = mb) w w' := by
  obtain ⟨vs, h1, h2⟩ := h
  by_cases hd : fgt A.first d
  · refine (forget_at w base b mb _ _ _ d vs h1 hd).mono ?_
    rintro e w' ⟨rfl, hA, hk⟩
    rw [forgetE, forgetS, if_pos hd, if_pos hd, ← h2, ← from_lv, List.length_map, List.length_map]
    exact ⟨rfl, ⟨_, hA, rfl⟩, hk⟩
  · refine (forget_no w base b mb _ _ _ d vs h1 hd).mono ?_
    rintro e w' ⟨rfl, rfl⟩
    rw [forgetE, forgetS, if_neg hd, if_neg hd]
    exact ⟨rfl, ⟨vs, h1, h2⟩, Keep.refl _ _⟩
theorem votes_ok (w : World) (base b mb : Nat) (A : AS) (h : AccIs w base b mb A) :
    Calls Try.prog 16 #[.pointer (some ⟨b, 0, none⟩)] w fun e w' => ∃ v, e = .returned v ∧ accc.Told w w' v A.vs ∧ Below w.heap.size w w' := by
  obtain ⟨vs, h1, h2⟩ := h
  rw [← h2]
  exact votes_at w base b mb _ _ _ vs h1
theorem first_ok (w : World) (base b mb : Nat) (A : AS) (h : AccIs w base b mb A) : Calls Try.prog 18 #[.pointer (some ⟨b, 0, none⟩)] w fun e w' => e = .returned (.int .i64 A.first) ∧ w = w' := by
  obtain ⟨vs, h1, h2⟩ := h
  exact first_any w base b mb _ _ _ vs h1
theorem promised_ok (w : World) (base b mb : Nat) (A : AS) (h : AccIs w base b mb A) : Calls Try.prog 21 #[.pointer (some ⟨b, 0, none⟩)] w fun e w' => e = .returned (.agg #[.int .i64 A.r, .int .i64 A.n]) ∧ Below w.heap.size w w' := by
  obtain ⟨vs, h1, h2⟩ := h
  exact promised_any w base b mb _ _ _ vs h1
def startS : AS := ⟨0, 0, 1, []⟩
theorem newA_ok (w : World) : Calls Try.prog 10 #[] w fun e w' => e = .returned (.pointer (some ⟨w.heap.size + 1, 0, none⟩)) ∧ AccIs w' w.heap.size (w.heap.size + 1) w.heap.size startS ∧ Below w.heap.size w w' := by
  refine (new_ok w).mono ?_
  rintro e w' ⟨rfl, h, hb⟩
  exact ⟨rfl, ⟨[], h, rfl⟩, hb⟩
end Go.Proofs.Ytafjmedjaepimaa.acce
