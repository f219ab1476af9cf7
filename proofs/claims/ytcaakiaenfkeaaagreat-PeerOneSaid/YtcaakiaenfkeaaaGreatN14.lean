/-
  The sequence that Run gives, each thing with the right to be there.
-/
import Derived.Test.YtcaakiaenfkeaaaGreatN07
import Derived.Test.YtcaakiaenfkeaaaGreatProg
import Derived.Test.YtcaakiaenfkeaaaGreatN03
import Derived.Deep.QuietTactic
import Derived.BigQuiet
import Derived.Lib.Hide
import Derived.Test.YtcaakiaenfkeaaaGreatN01
import Derived.RangeFuncWrites
import Derived.RangeFuncNested
import Derived.RangeFuncBound
import Derived.RangeFuncCalls
import Derived.RangeFuncLeaves
import Derived.Shelf.Abstract
import Derived.Shelf.RegionOpen
import Derived.OwnWalkIn
import Derived.TacticsInMore
import Derived.LoopNIn
import Derived.LoopIn
import Derived.RangeFuncBox
import Derived.StillTailTactics
import Derived.OrdersIn
import Derived.TacticsIn
namespace Go.Proofs.YtcaakiaenfkeaaaGreat.logq
open Go.ChangeShapes Go.WideShapes Go.ChangeAt Go.RowKit Go.Shelf
open Go.Proofs.YtcaakiaenfkeaaaGreat.kit
set_option linter.unusedVariables false
set_option linter.unusedSimpArgs false
set_option maxHeartbeats 1000000
set_option maxRecDepth 100000

theorem allF_full (f : Int) (cs : List (El × Bool)) (k : Nat) (hk : k ≤ cs.length) (h : ∀ j (hj : j < cs.length), j < k → (cs[j]).2 = true) : (allF f (cs.take k)).length = k := by
  induction k with
  | zero => simp [allF]
  | succ k ih =>
    rw [allF_snoc f cs k (by omega), h k (by omega) (by omega), if_pos rfl, List.length_append, ih (by omega) (fun j hj hjk => h j hj (by omega))]
    rfl
theorem run_take (f : Int) (cs : List (El × Bool)) (k : Nat) (hk : k ≤ cs.length) (h : ∀ j (hj : j < cs.length), j < k → (cs[j]).2 = true) : (runF f cs).take k = allF f (cs.take k) := by
  have h1 : allF f (cs.take k) <+: runF f cs := allF_mono f cs (nextN_ge cs k hk h)
  rw [List.prefix_iff_eq_take.1 h1, allF_full f cs k hk h]
theorem run_endB {β : Type} {R : List β} {rf : β → Int × El} {f : Int} {cs : List (El × Bool)} (hR : R.map rf = runF f cs) (k : Nat) (hk : k ≤ cs.length) (h : ∀ j (hj : j < cs.length), j < k → (cs[j]).2 = true) (hn : nextN cs = k) : (R.attach.take k).map Subtype.val = R := by
  rw [List.map_take, List.attach_map_subtype_val]
  have hl : R.length = k := by
    have h1 := congrArg List.length hR
    rw [List.length_map] at h1
    rw [h1]; unfold runF; rw [hn]; exact allF_full f cs k hk h
  rw [← hl, List.take_length]
theorem run_nextB {β : Type} {R : List β} {rf : β → Int × El} {f : Int} {cs : List (El × Bool)} (hR : R.map rf = runF f cs) (k : Nat) (hk : k < cs.length) (h : ∀ j (hj : j < cs.length), j < k + 1 → (cs[j]).2 = true) :
    ∃ (hl : k < R.length), rf R[k] = (f + (k : Int), (cs[k]).1) ∧ R.attach.take (k + 1) = R.attach.take k ++ [⟨R[k], List.getElem_mem hl⟩] := by
  have h1 := run_take f cs (k + 1) hk h
  have h2 := run_take f cs k (by omega) (fun j hj hjk => h j hj (by omega))
  have h3 := allF_full f cs (k + 1) hk h
  have hl : k < (runF f cs).length := by
    have := congrArg List.length h1
    rw [List.length_take, h3] at this; omega
  rw [allF_snoc f cs k hk, h k hk (by omega), if_pos rfl, ← h2, List.take_succ_eq_append_getElem hl] at h1
  have h4 : (runF f cs)[k] = (f + (k : Int), (cs[k]).1) := List.singleton_inj.1 (List.append_cancel_left h1)
  have hl2 : k < R.length := by rw [← hR, List.length_map] at hl; exact hl
  refine ⟨hl2, ?_, ?_⟩
  · rw [← h4]
    have h5 : (R.map rf)[k]'(by rw [List.length_map]; exact hl2) = rf R[k] := List.getElem_map _
    rw [← h5]
    simp only [hR]
  · rw [List.take_succ_eq_append_getElem (by rw [List.length_attach]; exact hl2)]
    congr 2
    exact Subtype.ext (by rw [List.getElem_attach])

theorem run_itB {β : Type} {R : List β} {rf : β → Int × El} (n : Nat) (hn : 1 ≤ n) (lo hi B B' : Nat) (f : Int) (cs : List (El × Bool)) (hR : R.map rf = runF f cs) (w : World) (h : ItAt w lo hi B B' f cs) (hhi : hi ≤ w.heap.size) (hf1 : 0 ≤ f) (hf2 : f ≤ 1099511627776) (hl : cs.length ≤ 1024) :
    SeqStopsK Fence.wide n Tryz.prog 66 #[.pointer (some ⟨B, 0, none⟩), .pointer (some ⟨B', 0, none⟩)] (fun x : {x : β // x ∈ R} => #[.int .i64 (rf x.1).1, (.agg #[.slice (rf x.1).2.1.1 (rf x.1).2.1.2.1 (rf x.1).2.1.2.2, .slice (rf x.1).2.2.1 (rf x.1).2.2.2.1 (rf x.1).2.2.2.2])]) (Between lo hi) (fun xs => xs.map Subtype.val = R) (fun pre => pre.map Subtype.val <+: R) R.length w := by
  intro l J Jx W hW hJ hJx hY h0
  obtain ⟨k1, k2, a, c, h1, h2, h3, h4⟩ := h
  obtain ⟨o1, o2, o3, o4⟩ := own_open h3 rfl
  have H4 : Hid (∀ wr, Between lo hi w wr → wr.cell? ⟨B', 0, none⟩ = some (.int .i64 f) ∧ ∀ k (hk : k < cs.length), ∃ g, a = some ⟨g, 0, none⟩ ∧ g < wr.heap.size ∧ (wr.cell? ⟨g, k * 3, none⟩ = some (.slice cs[k].1.1.1 cs[k].1.1.2.1 cs[k].1.1.2.2) ∧ wr.cell? ⟨g, k * 3 + 1, none⟩ = some (.slice cs[k].1.2.1 cs[k].1.2.2.1 cs[k].1.2.2.2)) ∧ wr.cell? ⟨g, k * 3 + 2, none⟩ = some (.bool cs[k].2)) := by
    intro wr hb
    refine ⟨(cell_same (hb.2 B' k2.1 k2.2)).trans h2, fun k hk => ?_⟩
    obtain ⟨g, e, hlo, hz, r0, r1, _⟩ := o4 k hk
    have hg := hb.2 g hlo (h4 g e)
    exact ⟨g, e, by have := hb.1; omega, ⟨(cell_same hg).trans r0.1, (cell_same hg).trans r0.2⟩, (cell_same hg).trans r1⟩
  have HW := Lib.hid hW
  have HY := Lib.hid hY
  have HJ := Lib.hid hJ
  have c1 := cell_step h1 hW
  have z1 := cell_lt c1
  have hs : hi ≤ W.heap.size := by have := HW.out.size; omega
  clear o4 h1 h2 h3 h4 hW hY hJ hJx k1 k2
  refine callsIn_of_wp Tryz.func66 rfl trivial ?_ rfl
  simp only [Tryz.ntmps66, List.size_toArray, List.length_cons, List.length_nil, Nat.reduceAdd, Nat.reduceSub, Array.replicate_succ, Array.replicate_zero, List.push_toArray, List.append_toArray, List.nil_append, List.cons_append]
  gi_wp2
  gi_loopw [8] (fun i wr => ∃ k : Nat, k ≤ cs.length ∧ i = .int .i64 k ∧ J (R.attach.take k) wr ∧ Between lo hi W wr ∧ Hid (∀ j (hj : j < cs.length), j < k → (cs[j]).2 = true))
    (fun i _ => cs.length - (intOf i).toNat)
  case atStart => exact ⟨0, Nat.zero_le _, rfl, h0, Between.refl _ _ _, fun j hj hk => absurd hk (by omega)⟩
  case round =>
    obtain ⟨k, hk, rfl, hJs, hb, hall⟩ := hrel
    have hwr : Between lo hi w wr := (Between.of_below HW.out hhi).trans hb
    obtain ⟨d1, d2⟩ := H4.out wr hwr
    have HB := Lib.hid hb
    by_cases hlt : k < cs.length
    · obtain ⟨g, rfl, hgz, ⟨r0, r0b⟩, r1⟩ := d2 k hlt
      have hw : IntKind.i64.wrap (f + (k : Int)) = f + k := IntWalk.i64_in _ (by omega)
      clear d2 hb
      cases hc : (cs[k]).2 with
      | false =>
        rw [hc] at r1
        have z2 := cell_lt d1
        have HR : Hid ((R.attach.take k).map Subtype.val = R) := run_endB hR k (Nat.le_of_lt hlt) hall.out (nextN_at cs k hlt hall.out hc)
        gi_wp2
        refine ⟨fun _ h => (by cases h), ?_⟩
        gi_wp2
        exact bodyPost_ret (results_none rfl _ _ _) rfl ⟨⟨_, rfl⟩, .inl ⟨_, HR.out, HJ.out _ _ _ none hJs (World.grownBy_alloc _ _ _) (by simp)⟩⟩
      | true =>
        rw [hc] at r1
        have hal : ∀ j (hj : j < cs.length), j < k + 1 → (cs[j]).2 = true := fun j hj hjk => by
          rcases Nat.lt_or_eq_of_le (Nat.le_of_lt_succ hjk) with h | rfl
          · exact hall.out j hj h
          · exact hc
        obtain ⟨hrl, hme, hsn⟩ := run_nextB hR k hlt hal
        have HSN := Lib.hid hsn
        have HAL := Lib.hid hal
        clear hal hsn
        have hJ2 := HJ.out _ _ _ none hJs (World.grownBy_alloc wr (.cells #[.slice cs[k].1.1.1 cs[k].1.1.2.1 cs[k].1.1.2.2, .slice cs[k].1.2.1 cs[k].1.2.2.1 cs[k].1.2.2.2, .bool true] 125) none) (by simp)
        have hb2 : Between lo hi W (wr.alloc (.cells #[.slice cs[k].1.1.1 cs[k].1.1.2.1 cs[k].1.1.2.2, .slice cs[k].1.2.1 cs[k].1.2.2.1 cs[k].1.2.2.2, .bool true] 125)) := HB.out.alloc hs _
        have HB2 := Lib.hid hb2
        have hYx := HY.out _ ⟨R[k], List.getElem_mem hrl⟩ _ hJ2 (by rw [List.length_take, List.length_attach]; omega)
        simp only [hme] at hYx
        obtain ⟨fn, tmps, assign, body, hy, hRR⟩ := hYx
        try dsimp only at hy
        have HP : Hid ((R.attach.take k ++ [(⟨R[k], List.getElem_mem hrl⟩ : {x : β // x ∈ R})]).map Subtype.val <+: R) := by
          show (R.attach.take k ++ [(⟨R[k], List.getElem_mem hrl⟩ : {x : β // x ∈ R})]).map Subtype.val <+: R
          rw [← HSN.out, List.map_take, List.attach_map_subtype_val]
          exact List.take_prefix _ _
        clear hJ2 hb2
        have z2 := cell_lt d1
        gi_wp2
        refine hRR.mono ?_
        rintro e W3 (⟨rfl, hJ3, hk3⟩ | ⟨rfl, hJx3⟩)
        · have HK := Lib.hid hk3
          clear hk3
          gi_wp2
          go_roundw
          case rel => exact ⟨k + 1, by omega, by go_num, by rw [HSN.out]; exact hJ3, HB2.out.trans HK.out, HAL⟩
          case measure => simp [intOf]; omega
        · gi_wp2
          exact bodyPost_ret (results_none rfl _ _ _) rfl ⟨⟨_, rfl⟩, .inr ⟨_, HP.out, hJx3⟩⟩
    · obtain rfl : k = cs.length := by omega
      have HR : Hid ((R.attach.take cs.length).map Subtype.val = R) := run_endB hR cs.length (Nat.le_refl _) hall.out (nextN_all cs (fun j hj => hall.out j hj hj))
      gi_wp2
      exact bodyPost_end (v := .tuple #[]) (by simp [results, Tryz.results66, go_sem]) rfl ⟨⟨_, rfl⟩, .inl ⟨_, HR.out, hJs⟩⟩

end Go.Proofs.YtcaakiaenfkeaaaGreat.logq
/-
  Contracts of the package ballot's functions, and of the statements' awake.
-/
namespace Go.Proofs.YtcaakiaenfkeaaaGreat.bal
open Go.ChangeShapes Go.WideShapes Go.ChangeAt Go.RowKit
open Go.Proofs.YtcaakiaenfkeaaaGreat.kit
set_option linter.unusedVariables false
set_option linter.unusedSimpArgs false


theorem eqBallot (w : World) (a b c d : Int) : (binOp .eql 28 (.agg #[.int .i64 a, .int .i64 b]) (.agg #[.int .i64 c, .int .i64 d])).run Tryz.prog w = .ok (.bool (a == c && b == d)) w := by
  cases h : (a == c) <;> cases h2 : (b == d) <;> go_simp

theorem less_any (r1 n1 r2 n2 : Int) (w : World) :
    Calls Tryz.prog 40 #[.agg #[.int .i64 r1, .int .i64 n1], .agg #[.int .i64 r2, .int .i64 n2]] w
      fun e w' => e = .returned (.bool (lessB r1 n1 r2 n2)) ∧ Below w.heap.size w w' := by
  rcases Int.lt_trichotomy r1 r2 with h | h | h
  · have hL : Hid (lessB r1 n1 r2 n2 = true) := by simp [Hid, lessB, h]
    go_enter Tryz.func40, Tryz.ntmps40
    go_wp2
    go_ret
    exact ⟨by rw [hL.out]; rfl, (((Below.refl _ _).alloc (Nat.le_refl _) _).alloc (by simp) _)⟩
  · subst h
    have hL : Hid (lessB r1 n1 r1 n2 = decide (n1 < n2)) := by simp [Hid, lessB]
    go_enter Tryz.func40, Tryz.ntmps40
    go_wp2
    go_ret
    exact ⟨by rw [hL.out]; rfl, (((Below.refl _ _).alloc (Nat.le_refl _) _).alloc (by simp) _)⟩
  · have hL : Hid (lessB r1 n1 r2 n2 = false) := by simp [Hid, lessB]; omega
    have h1 : decide (r1 < r2) = false := by simp; omega
    have h2 : (r1 == r2) = false := by simp; omega
    go_enter Tryz.func40, Tryz.ntmps40
    go_wp2
    go_ret
    exact ⟨by rw [hL.out]; simp [h1], (((Below.refl _ _).alloc (Nat.le_refl _) _).alloc (by simp) _)⟩

theorem quorum_any (n : Int) (h1 : 1 ≤ n) (h5 : n ≤ 5) (w : World) :
    Calls Tryz.prog 60 #[.int .i64 n] w fun e w' => e = .returned (.int .i64 (n / 2 + 1)) ∧ w = w' := by
  go_enter Tryz.func60, Tryz.ntmps60
  go_wp2
  go_ret
  exact ⟨rfl, rfl⟩

def nextB (r n : Int) : Int × Int × Int :=
  if n < 1 ∨ 5 < n then (0, 0, 1) else if r = 9223372036854775807 then (0, 0, 10) else (max (r + 1) 1, n, 0)

def maxInt : Int := 9223372036854775807
theorem nextB_bad {r n : Int} (h : n < 1 ∨ 5 < n) : nextB r n = (0, 0, 1) := by simp [nextB, h]
theorem nextB_over {r n : Int} (h : ¬ (n < 1 ∨ 5 < n)) (hr : r = 9223372036854775807) : nextB r n = (0, 0, 10) := by unfold nextB; rw [if_neg h, if_pos hr]
theorem nextB_ok {r n : Int} (h : ¬ (n < 1 ∨ 5 < n)) (hr : r ≠ 9223372036854775807) : nextB r n = (max (r + 1) 1, n, 0) := by unfold nextB; rw [if_neg h, if_neg hr]

theorem known_any (n : Int) (w : World) :
    Calls Tryz.prog 36 #[.int .i64 n] w fun e w' => e = .returned (.bool (knownB n)) ∧ w = w' := by
  by_cases h1 : 1 ≤ n
  · have hk : Hid (knownB n = decide (n ≤ 5)) := by simp [Hid, knownB, h1]
    go_enter Tryz.func36, Tryz.ntmps36
    go_wp2
    go_ret
    exact ⟨by rw [hk.out]; rfl, rfl⟩
  · have hk : Hid (knownB n = false) := by simp [Hid, knownB, h1]
    have h2 : n < 1 := by omega
    clear h1
    go_enter Tryz.func36, Tryz.ntmps36
    go_wp2
    go_ret
    exact ⟨by rw [hk.out]; rfl, rfl⟩

theorem next_any (r k n : Int) (hr : (Lit.int .i64 r).wf = true) (w : World) :
    Calls Tryz.prog 17 #[.agg #[.int .i64 r, .int .i64 k], .int .i64 n] w
      fun e w' => e = .returned (.tuple #[.agg #[.int .i64 (nextB r n).1, .int .i64 (nextB r n).2.1], .int .i64 (nextB r n).2.2]) ∧ Below w.heap.size w w' := by
  obtain ⟨hb1, hb2⟩ : -9223372036854775808 ≤ r ∧ r ≤ 9223372036854775807 := by simpa [Lit.wf, IntKind.min, IntKind.max, IntKind.signed, IntKind.bits] using hr
  clear hr
  by_cases h1 : n < 1 ∨ 5 < n
  · have HN := Lib.hid (nextB_bad (r := r) h1)
    have hk : knownB n = false := by simp [knownB]; omega
    clear h1
    go_enter Tryz.func17, Tryz.ntmps17
    go_wp2_with (go_at_call 36; refine (known_any _ _).mono ?_; rintro e w' ⟨rfl, rfl⟩)
    rw [HN.out]
    exact bodyPost_ret (v := .tuple #[.agg #[.int .i64 0, .int .i64 0], .int .i64 1]) (by simp [results, Tryz.results17, go_sem]) rfl ⟨rfl, (((Below.refl _ _).alloc (Nat.le_refl _) _).alloc (by simp) _)⟩
  · have hk : knownB n = true := by simp [knownB]; omega
    by_cases h2 : r = 9223372036854775807
    · have HN := Lib.hid (nextB_over h1 h2)
      have h3 : (r == 9223372036854775807) = true := by simpa using h2
      clear h2 h1
      go_enter Tryz.func17, Tryz.ntmps17
      go_wp2_with (go_at_call 36; refine (known_any _ _).mono ?_; rintro e w' ⟨rfl, rfl⟩)
      rw [HN.out]
      exact bodyPost_ret (v := .tuple #[.agg #[.int .i64 0, .int .i64 0], .int .i64 10]) (by simp [results, Tryz.results17, go_sem]) rfl ⟨rfl, (((Below.refl _ _).alloc (Nat.le_refl _) _).alloc (by simp) _)⟩
    · have HN := Lib.hid (nextB_ok h1 h2)
      have h3 : (r == 9223372036854775807) = false := by simpa using h2
      have h4 : r < 9223372036854775807 := by omega
      have h5 : Hid (max (r + 1) 1 = if r + 1 < 1 then 1 else r + 1) := by simp only [Hid]; omega
      clear h2 h1
      go_enter Tryz.func17, Tryz.ntmps17
      go_wp2_with (go_at_call 36; refine (known_any _ _).mono ?_; rintro e w' ⟨rfl, rfl⟩)
      all_goals
        have h6 := h5.out
        rw [HN.out, h6]
      · rw [if_pos (by assumption)]
        exact bodyPost_ret (v := .tuple #[.agg #[.int .i64 1, .int .i64 n], .int .i64 0]) (by simp [results, Tryz.results17, go_sem]) rfl ⟨rfl, (((Below.refl _ _).alloc (Nat.le_refl _) _).alloc (by simp) _)⟩
      · rw [if_neg (by omega)]
        exact bodyPost_ret (v := .tuple #[.agg #[.int .i64 (r + 1), .int .i64 n], .int .i64 0]) (by simp [results, Tryz.results17, go_sem]) rfl ⟨rfl, (((Below.refl _ _).alloc (Nat.le_refl _) _).alloc (by simp) _)⟩

end Go.Proofs.YtcaakiaenfkeaaaGreat.bal
/-
  Contracts of ballot.Count, Enough and of the reference's.
-/
namespace Go.Proofs.YtcaakiaenfkeaaaGreat.bal
open Go.ChangeShapes Go.WideShapes Go.ChangeAt Go.RowKit
open Go.Proofs.YtcaakiaenfkeaaaGreat.kit
set_option linter.unusedVariables false
set_option linter.unusedSimpArgs false

theorem count_nil (n : Int) (a : Option Addr) (cap : Nat) (w : World) (h1 : 1 ≤ n) (h5 : n ≤ 5) :
    Calls Tryz.prog 59 #[.int .i64 n, .slice a 0 cap] w
      fun e w' => e = .returned (.int .i64 0) ∧ Below w.heap.size w w' := by
  have hk : knownB n = true := by simp [knownB, h1, h5]
  go_enter Tryz.func59, Tryz.ntmps59
  go_wp2_with (go_at_call 36; refine (known_any _ _).mono ?_; rintro e w' ⟨rfl, rfl⟩)
  refine wp_loop_rounds 1 ?_
  rw [rounds_succ]
  go_wp2
  go_ret
  exact ⟨rfl, (Below.refl _ _).alloc (Nat.le_refl _) _⟩

theorem count_ok (n : Int) (l : List Int) (b off : Nat) (cap : Nat) (w : World) (h1 : 1 ≤ n) (h5 : n ≤ 5) (hl : l.length ≤ 9223372036854775807) (hbl : b < w.heap.size)
    (hat : ∀ i, i < (ints l).length → w.cell? ⟨b, off + i, none⟩ = (ints l)[i]?) :
    Calls Tryz.prog 59 #[.int .i64 n, .slice (some ⟨b, off, none⟩) l.length cap] w
      fun e w' => e = .returned (.int .i64 (countB n l)) ∧ Below w.heap.size w w' := by
  have hk : knownB n = true := by simp [knownB, h1, h5]
  have HA := Lib.hid hat
  clear hat
  go_enter Tryz.func59, Tryz.ntmps59
  go_wp2_with (go_at_call 36; refine (known_any _ _).mono ?_; rintro e w' ⟨rfl, rfl⟩)
  go_loopw [5, 14] (fun c i wr => ∃ k : Nat, k ≤ l.length ∧ i = .int .i64 k ∧ c = .int .i64 (countB n (l.take k)) ∧ wr.heap[w.heap.size]? = some (.cells (seenArr n (l.take k)) 150 (0, 0)) ∧ Below w.heap.size w wr)
    (fun _ i _ => l.length - (intOf i).toNat)
  case atStart => exact ⟨0, Nat.zero_le _, rfl, by rw [List.take_zero, countB_nil]; rfl, by rw [hp_alloc_new, List.take_zero, seenArr_nil], (Below.refl _ _).alloc (Nat.le_refl _) _⟩
  case round =>
    obtain ⟨k, hk', rfl, rfl, hB, hb⟩ := hrel
    obtain ⟨hc, hf, hz⟩ := blk hB
    have hcl := countB_le n (l.take k)
    by_cases hlt : k < l.length
    · obtain ⟨x, hx⟩ : ∃ x, x = l[k] := ⟨_, rfl⟩
      have hx' : wr.cell? ⟨b, off + k, none⟩ = some (.int .i64 x) := by
        rw [hb.cell (by exact hbl), HA.out k (by simpa [ints] using hlt), hx]
        simp [ints, hlt]
      have HT := Lib.hid (take_snoc l k hlt)
      have HX := Lib.hid hx
      clear hx
      have HC := Lib.hid hc
      have HF := Lib.hid hf
      have HB := Lib.hid hB
      clear hc hf hB
      by_cases hx1 : x < 1
      · go_wp2
        go_roundw
        case rel =>
          obtain ⟨e1, e2⟩ := seen_out (n := n) (l := l.take k) (x := x) (.inl hx1)
          exact ⟨k + 1, by omega, by go_num, by rw [HT.out, ← HX.out, e2], by rw [HT.out, ← HX.out, e1]; exact HB.out, hb⟩
        case measure => simp [intOf]; omega
      · by_cases hx2 : x ≤ n
        · have hq := HC.out x.toNat
          have hfr := HF.out x.toNat
          rw [seenArr_get _ _ _ (by omega)] at hq
          have hge : 1 ≤ x := by omega
          have hx0 : 0 ≤ x ∧ x < 6 := by omega
          cases hnm : named n (l.take k) x.toNat
          · rw [hnm] at hq
            have HN := Lib.hid hnm
            clear hnm
            go_wp2
            go_roundw
            case rel =>
              obtain ⟨e1, e2⟩ := seen_once (n := n) (l := l.take k) (x := x) rfl hge hx2 h5 HN.out
              exact ⟨k + 1, by omega, by go_num, by rw [HT.out, ← HX.out, e2]; go_num, by rw [HT.out, ← HX.out, e1]; exact hp_set HB.out _ _, hb.setCell (Nat.le_refl _) _⟩
            case measure => simp [intOf]; omega
          · rw [hnm] at hq
            have HN := Lib.hid hnm
            clear hnm
            go_wp2
            go_roundw
            case rel =>
              obtain ⟨e1, e2⟩ := seen_twice (n := n) (l := l.take k) (x := x) hge hx2 HN.out
              exact ⟨k + 1, by omega, by go_num, by rw [HT.out, ← HX.out, e2], by rw [HT.out, ← HX.out, e1]; exact HB.out, hb⟩
            case measure => simp [intOf]; omega
        · go_wp2
          go_roundw
          case rel =>
            obtain ⟨e1, e2⟩ := seen_out (n := n) (l := l.take k) (x := x) (.inr (by omega))
            exact ⟨k + 1, by omega, by go_num, by rw [HT.out, ← HX.out, e2], by rw [HT.out, ← HX.out, e1]; exact HB.out, hb⟩
          case measure => simp [intOf]; omega
    · have HE : Hid (Ending.returned (.int .i64 (countB n (l.take k))) = Ending.returned (.int .i64 (countB n l))) := by rw [List.take_of_length_le (by omega)]; rfl
      clear hc hf hB hz
      go_wp2
      go_ret
      exact ⟨HE.out, hb⟩

def quorumB (n : Int) : Int := if knownB n then n / 2 + 1 else 0
theorem quorum_bad (n : Int) (w : World) (h : knownB n = false) :
    Calls Tryz.prog 60 #[.int .i64 n] w fun e w' => e = .returned (.int .i64 0) ∧ w = w' := by
  go_enter Tryz.func60, Tryz.ntmps60
  go_wp2_with (go_at_call 36; refine (known_any _ _).mono ?_; rintro e w' ⟨rfl, rfl⟩)
  go_ret
  exact ⟨rfl, rfl⟩
theorem quorum_gen (n : Int) (w : World) :
    Calls Tryz.prog 60 #[.int .i64 n] w fun e w' => e = .returned (.int .i64 (quorumB n)) ∧ w = w' := by
  cases h : knownB n
  · have := quorum_bad n w h
    simpa [quorumB, h] using this
  · have hk : 1 ≤ n ∧ n ≤ 5 := by simpa [knownB] using h
    have := quorum_any n hk.1 hk.2 w
    simpa [quorumB, h] using this

theorem count_bad (n : Int) (v : Value) (w : World) (h : knownB n = false) :
    Calls Tryz.prog 59 #[.int .i64 n, v] w
      fun e w' => e = .returned (.int .i64 0) ∧ Below w.heap.size w w' := by
  go_enter Tryz.func59, Tryz.ntmps59
  go_wp2_with (go_at_call 36; refine (known_any _ _).mono ?_; rintro e w' ⟨rfl, rfl⟩)
  go_ret
  exact ⟨rfl, Below.refl _ _⟩

theorem count_any (n : Int) (l : List Int) (a : Option Addr) (cap : Nat) (w : World) (hl : l.length ≤ 9223372036854775807) (hat : Lie w a (ints l)) :
    Calls Tryz.prog 59 #[.int .i64 n, .slice a l.length cap] w
      fun e w' => e = .returned (.int .i64 (cntG n l)) ∧ Below w.heap.size w w' := by
  cases h : knownB n
  · have := count_bad n (.slice a l.length cap) w h
    simpa [cntG, h] using this
  · have hk : 1 ≤ n ∧ n ≤ 5 := by simpa [knownB] using h
    rcases hat with h0 | ⟨b, off, rfl, hb, hc⟩
    · obtain rfl : l = [] := by simpa [ints] using h0
      have := count_nil n a cap w hk.1 hk.2
      simpa [cntG, h, countB_nil] using this
    · have := count_ok n l b off cap w hk.1 hk.2 hl hb hc
      simpa [cntG, h] using this

theorem enough_any (n : Int) (l : List Int) (a : Option Addr) (cap : Nat) (w : World) (hl : l.length ≤ 9223372036854775807) (hat : Lie w a (ints l)) :
    Calls Tryz.prog 46 #[.int .i64 n, .slice a l.length cap] w
      fun e w' => e = .returned (.bool (enoughB n l)) ∧ Below w.heap.size w w' := by
  cases h : knownB n
  · have HE : Hid (enoughB n l = false) := by simp [Hid, enoughB, h]
    go_enter Tryz.func46, Tryz.ntmps46
    go_wp2_with (go_at_call 36; refine (known_any _ _).mono ?_; rintro e w' ⟨rfl, rfl⟩)
    go_ret
    exact ⟨by rw [HE.out]; rfl, Below.refl _ _⟩
  · have hk : 1 ≤ n ∧ n ≤ 5 := by simpa [knownB] using h
    have HE : Hid (enoughB n l = decide (n / 2 + 1 ≤ (cntG n l : Int))) := by simp [Hid, enoughB, h]
    go_enter Tryz.func46, Tryz.ntmps46
    go_wp2_with (first | (go_at_call 36; refine (known_any _ _).mono ?_; rintro e w' ⟨rfl, rfl⟩) | (go_at_call 59; refine (count_any n l a cap _ hl hat).mono ?_; rintro e w1 ⟨rfl, hb⟩) | (go_at_call 60; refine (quorum_any n hk.1 hk.2 _).mono ?_; rintro e w' ⟨rfl, rfl⟩))
    go_ret
    exact ⟨by rw [HE.out]; rfl, hb⟩

end Go.Proofs.YtcaakiaenfkeaaaGreat.bal
/-
  A range over a function (no program) whose second loop variable lies in a box of its own each round, and whose loop may be left early: the kit's law wpIn_rangeFunc_ownG with the box.
-/
namespace Go.Proofs.YtcaakiaenfkeaaaGreat.rabox
open Go.ChangeShapes Go.WideShapes Go.ChangeAt Go.RowKit Go.Shelf
open Go.Proofs.YtcaakiaenfkeaaaGreat.kit Go.Proofs.YtcaakiaenfkeaaaGreat.own
set_option linter.unusedVariables false
set_option linter.unusedSimpArgs false
set_option maxHeartbeats 1000000
set_option maxRecDepth 100000

theorem range_boxG {α : Type} {F : Fence} {n : Nat} {P : Program} {g : Operand} {ps : Array Tmp} {assign body : Code} {Q : Exit → Act → World → Prop} {a : Act} {w : World}
    (hro : F.round = none) (h1 : 1 ≤ n) {gf : Nat} {lb : Array Value} (hg : a.eval g = .func (.func gf) #[] lb) (hFg : F.fn gf) (eg : ∀ args w, (callFunc gf args).run P w = .ok (.enter gf args) w)
    {encs : α → Array Value} {Kp : World → World → Prop} {S Sp : List α → Prop} {N : Nat} {w0 : World} (hseq : SeqStopsK F (n - 1) P gf lb encs Kp S Sp N w0)
    (hKt : ∀ {A B C : World}, Kp A B → Kp B C → Kp A C) (hKb : ∀ (W : World) (l : Nat) (o o' : Obj), w.heap.size ≤ l → W.heap[l]? = some o → o.isCells = false → o.isWalk = false → Kp W (W.putObj l o')) (hKa : ∀ (W : World) (o : Obj), w.heap.size ≤ W.heap.size → Kp W (W.alloc o))
    (hb0 : Below w0.heap.size w0 w) (hps : ∀ x, (encs x).size = ps.size)
    (I : List α → World → Prop) (Ix : Code → List α → World → Prop) (hI : OwnFrom w.heap.size I) (hIx : ∀ c, OwnFrom w.heap.size (Ix c)) (h0 : I [] w) (a₁ : α → Nat → Act) (gA : α → Obj)
    (hassign : ∀ (l : Nat) (x : α) (W : World) (K : Act → World → Prop), K (a₁ x W.heap.size) (W.alloc (gA x)) →
      assign.wpIn (F.inRound l) (n - 1 - 1) P (Exit.then K (fun _ _ _ => False)) { tmps := (ps.zip (encs x)).foldl (fun t (p, v) => t.setIfInBounds p v) a.tmps, defers := [] } W)
    (hbody : ∀ (l : Nat) (pre : List α) (x : α) (A : Nat) (W : World), w.heap.size ≤ A → W.heap[A]? = some (gA x) → I pre W → pre.length < N → body.wpIn (F.inRound l) (n - 1 - 1) P (ownPostG w.heap.size Kp I Ix (pre ++ [x]) W) (a₁ x A) W)
    (hdone : ∀ (D : Nat) (xs : List α) (W : World), w.heap.size ≤ D → S xs → I xs W → W.heap[D]? = some (.deferred (some [])) → Q .normal { a with defers := { target := .collected D, args := #[] } :: a.defers } W)
    (hstop : ∀ (D : Nat) (c : Code) (pre : List α) (W : World), w.heap.size ≤ D → Sp pre → Ix c pre W → W.heap[D]? = some (.deferred (some [])) → c.wpIn F n P Q { a with defers := { target := .collected D, args := #[] } :: a.defers } W) :
    (Code.rangeFunc g ps assign body).wpIn F n P Q a w := by
  refine wpIn_rangeFunc (fun fn hfn => ?_)
  rw [hro]
  let lp : LoopState → Option Code → Loop := fun st pe => { state := st, pending := pe, fn, tmps := a.tmps, params := ps, assign, body, defers := w.heap.size }
  obtain ⟨V, hV⟩ : ∃ V, V = (w.alloc (.deferred (some []))).alloc (.loop (lp .ready none)) := ⟨_, rfl⟩
  have hVl : V.heap[w.heap.size + 1]? = some (.loop (lp .ready none)) := by
    have := hp_alloc_new (w.alloc (.deferred (some []))) (.loop (lp .ready none))
    rw [size_new] at this
    rw [hV]; exact this
  have hVd : V.heap[w.heap.size]? = some (.deferred (some [])) := by rw [hV]; exact hp_new (hp_alloc_new w _)
  have hVs : V.heap.size = w.heap.size + 1 + 1 := by rw [hV, size_new, size_new]
  have hVI : I [] V := by rw [hV]; exact hI.alloc _ (hI.alloc _ h0)
  have hVb : Below w0.heap.size w0 V := by rw [hV]; exact below_step (below_step hb0 (below_new1 _ _)) (below_new1 _ _)
  let Bk : LoopState → Option Code → World → Prop := fun st pe W => W.heap[w.heap.size + 1]? = some (.loop (lp st pe)) ∧ W.heap[w.heap.size]? = some (.deferred (some []))
  have hBk : ∀ {st : LoopState} {pe : Option Code} {A B : World} {row : Option Nat}, Bk st pe A → A.grownBy B row → (∀ r, row = some r → V.heap.size ≤ r ∧ ∃ o : Obj, A.heap[r]? = some o ∧ o.isWalk = true) → Bk st pe B := by
    intro st pe A B row hs hgr hr
    refine ⟨(hgr.block _ (Array.getElem?_eq_some_iff.1 hs.1).1 (fun e => ?_)).trans hs.1, (hgr.block _ (Array.getElem?_eq_some_iff.1 hs.2).1 (fun e => ?_)).trans hs.2⟩
    all_goals
      have := (hr _ e.symm).1
      omega
  have hro' : ∀ {A : World} {row : Option Nat}, (∀ r, row = some r → V.heap.size ≤ r ∧ ∃ o : Obj, A.heap[r]? = some o ∧ o.isWalk = true) → ∀ r, row = some r → w.heap.size ≤ r ∧ ∃ o : Obj, A.heap[r]? = some o ∧ o.isCells = false := by
    intro A row hr r e
    obtain ⟨hB, o, ho, hw⟩ := hr r e
    exact ⟨by omega, o, ho, Obj.not_cells_of_walk hw⟩
  refine ⟨w.heap.size + 1, [{ target := .collected w.heap.size, args := #[] }], V, { target := .fn (.func gf) lb, args := #[.func (.yield (w.heap.size + 1)) #[] #[]] }, V, gf,
    #[.func (.yield (w.heap.size + 1)) #[] #[]] ++ lb, V, by rw [hV]; exact run_enterLoop_outer _ _ _ _ _, by simp only [resolve, hg]; simp [go_sem],
    fun f' hf' => by simp [Target.leads] at hf'; subst hf'; exact hFg, by simp [invoke, go_sem, eg], fun _ => h1, ?_⟩
  refine (hseq (w.heap.size + 1) (fun pre W => I pre W ∧ Bk .ready none W) (fun pre W => ∃ c, Ix c pre W ∧ Bk .done (some c) W) V hVb
    (fun s A B row hs hgr hr => ⟨hI s A B row hs.1 hgr (hro' hr), hBk hs.2 hgr hr⟩) (fun s A B row hs hgr hr => by obtain ⟨c, h1, h2⟩ := hs; exact ⟨c, hIx c s A B row h1 hgr (hro' hr), hBk h2 hgr hr⟩) ?_ ⟨hVI, hVl, hVd⟩).mono ?_
  · -- one round
    rintro pre x W ⟨hi, hl, hd⟩ hlen
    have hlt := (Array.getElem?_eq_some_iff.1 hl).1
    obtain ⟨V2, hV2⟩ : ∃ V2, V2 = W.alloc (gA x) := ⟨_, rfl⟩
    have hl2 : V2.heap[w.heap.size + 1]? = some (.loop (lp .ready none)) := by rw [hV2]; exact hp_new hl
    have hd2 : V2.heap[w.heap.size]? = some (.deferred (some [])) := by rw [hV2]; exact hp_new hd
    have hx2 : V2.heap[W.heap.size]? = some (gA x) := by rw [hV2]; exact hp_alloc_new _ _
    have hlt2 := (Array.getElem?_eq_some_iff.1 hl2).1
    refine ⟨fn, _, assign, body, run_yield (P := P) (args := encs x) hl (hps x), roundIn_of_wpIn hfn (hassign _ x W _ ?_)⟩
    rw [← hV2]
    refine ⟨_, run_beginRound hl2 rfl, ?_⟩
    obtain ⟨U, hU⟩ : ∃ U, U = V2.putObj (w.heap.size + 1) (.loop { lp .ready none with state := .busy }) := ⟨_, rfl⟩
    have hUl : U.heap[w.heap.size + 1]? = some (.loop { lp .ready none with state := .busy }) := by rw [hU]; exact World.putObj_heap_same hlt2
    have hUd : U.heap[w.heap.size]? = some (.deferred (some [])) := by rw [hU]; exact (World.putObj_heap_other (by omega)).trans hd2
    have hUx : U.heap[W.heap.size]? = some (gA x) := by rw [hU]; exact (World.putObj_heap_other (by omega)).trans hx2
    have hUi : I pre U := by rw [hU, hV2]; exact hI.putObj _ (hI.alloc _ hi) (by omega) (hV2 ▸ hl2) rfl
    have hUk : Kp W U := by rw [hU, hV2]; exact hKt (hKa _ _ (by omega)) (hKb _ _ _ _ (by omega) (hV2 ▸ hl2) rfl rfl)
    rw [← hU]
    refine wpIn_mono (hbody _ pre x _ U (by omega) hUx hUi hlen) ?_
    have fin : ∀ (jump : Option Code) (W3 : World), KeepsFrom w.heap.size U W3 →
        (Instr.endRound (w.heap.size + 1) jump).run P W3 = .ok (.bool jump.isNone) (W3.putObj (w.heap.size + 1) (.loop (lp (if jump.isNone then .ready else .done) jump))) ∧ W3.heap[w.heap.size + 1]? = some (.loop { lp .ready none with state := .busy }) ∧
        Bk (if jump.isNone then .ready else .done) jump (W3.putObj (w.heap.size + 1) (.loop (lp (if jump.isNone then .ready else .done) jump))) := fun jump W3 hk3 => by
      have hl3 := hk3.same _ _ (by omega) hUl rfl
      exact ⟨run_endRound (P := P) jump hl3, hl3, World.putObj_heap_same (Array.getElem?_eq_some_iff.1 hl3).1, (World.putObj_heap_other (by omega)).trans (hk3.same _ _ (Nat.le_refl _) hUd rfl)⟩
    rintro e a3 W3 hp
    cases e with
    | normal =>
      obtain ⟨hk3, hkp3, hi3⟩ := hp
      obtain ⟨hr, hl3, hb⟩ := fin none W3 hk3
      exact ⟨_, _, hr, .inl ⟨rfl, ⟨hI.putObj _ hi3 (by omega) hl3 rfl, hb⟩, hKt (hKt hUk hkp3) (hKb _ _ _ _ (by omega) hl3 rfl rfl)⟩⟩
    | ret =>
      obtain ⟨hk3, hi3⟩ := hp
      obtain ⟨hr, hl3, hb⟩ := fin (some .ret) W3 hk3
      exact ⟨_, _, hr, .inr ⟨rfl, .ret, (hIx _).putObj _ hi3 (by omega) hl3 rfl, hb⟩⟩
    | exit id =>
      obtain ⟨hk3, hi3⟩ := hp
      obtain ⟨hr, hl3, hb⟩ := fin (some (.exit id)) W3 hk3
      exact ⟨_, _, hr, .inr ⟨rfl, .exit id, (hIx _).putObj _ hi3 (by omega) hl3 rfl, hb⟩⟩
    | goto t =>
      obtain ⟨hk3, hi3⟩ := hp
      obtain ⟨hr, hl3, hb⟩ := fin (some (.goto t)) W3 hk3
      exact ⟨_, _, hr, .inr ⟨rfl, .goto t, (hIx _).putObj _ hi3 (by omega) hl3 rfl, hb⟩⟩
    | panic ch => exact hp.elim
    | outgrown => exact hp.elim
  · -- behind the sequence
    rintro e W2 ⟨⟨v, rfl⟩, (⟨xs, hS, hi, hl, hk⟩ | ⟨pre, hSp, c, hi, hl, hk⟩)⟩
    · exact ⟨none, _, run_endLoop (P := P) hl (by simp [lp]), hdone _ xs _ (Nat.le_refl _) hS (hI.putObj _ hi (by omega) hl rfl) ((World.putObj_heap_other (by omega)).trans hk)⟩
    · exact ⟨some c, _, run_endLoop (P := P) hl (by simp [lp]), hstop _ c pre _ (Nat.le_refl _) hSp ((hIx c).putObj _ hi (by omega) hl rfl) ((World.putObj_heap_other (by omega)).trans hk)⟩
/-- The same where the two variables' slots are told, and no frame is typed by hand. -/
theorem range_box2 {α : Type} {F : Fence} {n : Nat} {P : Program} {g : Operand} {t0 t1 d0 d1 : Tmp} {assign body : Code} {Q : Exit → Act → World → Prop} {a : Act} {w : World}
    (hro : F.round = none) (h1 : 1 ≤ n) {gf : Nat} {lb : Array Value} (hg : a.eval g = .func (.func gf) #[] lb) (hFg : F.fn gf) (eg : ∀ args w, (callFunc gf args).run P w = .ok (.enter gf args) w)
    {encs : α → Array Value} {Kp : World → World → Prop} {S Sp : List α → Prop} {N : Nat} {w0 : World} (hseq : SeqStopsK F (n - 1) P gf lb encs Kp S Sp N w0)
    (hKt : ∀ {A B C : World}, Kp A B → Kp B C → Kp A C) (hKb : ∀ (W : World) (l : Nat) (o o' : Obj), w.heap.size ≤ l → W.heap[l]? = some o → o.isCells = false → o.isWalk = false → Kp W (W.putObj l o')) (hKa : ∀ (W : World) (o : Obj), w.heap.size ≤ W.heap.size → Kp W (W.alloc o))
    (hb0 : Below w0.heap.size w0 w) (hps : ∀ x, (encs x).size = #[t0, t1].size)
    (I : List α → World → Prop) (Ix : Code → List α → World → Prop) (hI : OwnFrom w.heap.size I) (hIx : ∀ c, OwnFrom w.heap.size (Ix c)) (h0 : I [] w) (v0 v1 : α → Value) (gA : α → Obj)
    (hassign : ∀ (l : Nat) (x : α) (W : World) (K : Act → World → Prop), K { tmps := (((a.tmps.setIfInBounds t0 (v0 x)).setIfInBounds t1 (v1 x)).setIfInBounds d0 (v0 x)).setIfInBounds d1 (.pointer (some ⟨W.heap.size, 0, none⟩)), defers := [] } (W.alloc (gA x)) →
      assign.wpIn (F.inRound l) (n - 1 - 1) P (Exit.then K (fun _ _ _ => False)) { tmps := (#[t0, t1].zip (encs x)).foldl (fun t (p, v) => t.setIfInBounds p v) a.tmps, defers := [] } W)
    (hbody : ∀ (l : Nat) (pre : List α) (x : α) (A : Nat) (W : World), w.heap.size ≤ A → W.heap[A]? = some (gA x) → I pre W → pre.length < N → body.wpIn (F.inRound l) (n - 1 - 1) P (ownPostG w.heap.size Kp I Ix (pre ++ [x]) W) { tmps := (((a.tmps.setIfInBounds t0 (v0 x)).setIfInBounds t1 (v1 x)).setIfInBounds d0 (v0 x)).setIfInBounds d1 (.pointer (some ⟨A, 0, none⟩)), defers := [] } W)
    (hdone : ∀ (D : Nat) (xs : List α) (W : World), w.heap.size ≤ D → S xs → I xs W → W.heap[D]? = some (.deferred (some [])) → Q .normal { a with defers := { target := .collected D, args := #[] } :: a.defers } W)
    (hstop : ∀ (D : Nat) (c : Code) (pre : List α) (W : World), w.heap.size ≤ D → Sp pre → Ix c pre W → W.heap[D]? = some (.deferred (some [])) → c.wpIn F n P Q { a with defers := { target := .collected D, args := #[] } :: a.defers } W) :
    (Code.rangeFunc g #[t0, t1] assign body).wpIn F n P Q a w :=
  range_boxG hro h1 hg hFg eg hseq hKt hKb hKa hb0 hps I Ix hI hIx h0 (fun x A => { tmps := (((a.tmps.setIfInBounds t0 (v0 x)).setIfInBounds t1 (v1 x)).setIfInBounds d0 (v0 x)).setIfInBounds d1 (.pointer (some ⟨A, 0, none⟩)), defers := [] }) gA hassign hbody hdone hstop
end Go.Proofs.YtcaakiaenfkeaaaGreat.rabox
/-
  A region that draws its order, whose operations but for a tail only read: inside a round of a range over a function.
-/
namespace Go.Proofs.YtcaakiaenfkeaaaGreat.kit
open Go

theorem wpOpIn_of_stOp {P : Program} {ops : Array Oper} {w : World} {l0 k i : Nat} {a : Act} {K : Act → Prop} {K' : Act → World → Prop} {Q' : Exit → Act → World → Prop} (hnd : ∀ (j : Nat) (o : Oper), ops[j]? = some o → ∀ c, o.op ≠ .defer c)
    (h : ∀ a, K a → K' a w) (hh : stOp P ops w i K a) : wpOpIn (Fence.wide.inRound l0) k P ops Q' i K' a w := by
  unfold stOp at hh
  unfold wpOpIn
  split
  · rename_i ho; simp only [ho] at hh; exact h _ hh
  · rename_i o ho
    simp only [ho] at hh
    split
    · rename_i hw
      simp only [hw, if_true] at hh
      unfold Oper.wpIn
      refine ⟨fun f _ => trivial, ?_⟩
      rw [Oper.semAt_plain _ _ o (hnd i o ho)]
      unfold Oper.still at hh
      generalize (execOp a.eval o).run P w = r at *
      cases r with
      | ok n w' =>
        cases n <;> simp only [Oper.stillUpon] at hh <;> simp only [Oper.uponIn]
        case enter f args =>
          obtain ⟨rfl, v, hc, hn⟩ := hh
          refine ⟨fun hd => by simp [Fence.inRound, Fence.wide] at hd, CallsIn.inRound l0 ((callsIn_wide.2 hc).mono ?_)⟩
          intro e w'' ⟨he, hw⟩
          subst he; subst hw
          exact h _ hn
        all_goals (obtain ⟨rfl, h2⟩ := hh; exact h _ h2)
      | halt x w' => simp only [Oper.stillUpon] at hh
    · rename_i hw
      simp only [hw] at hh
      exact ⟨fun f _ => trivial, h _ hh⟩
theorem wpAnyIn_of_head {P : Program} {ops : Array Oper} {w : World} {md : Region.Mode} {l0 k n g : Nat} {L : Array Bool → Act → Prop} {Q' : Exit → Act → World → Prop} (hnd : ∀ (j : Nat) (o : Oper), ops[j]? = some o → ∀ c, o.op ≠ .defer c)
    (hL : ∀ listed a, L listed a → wpAnyIn (Fence.wide.inRound l0) k P md ops Q' g listed a w) :
    ∀ (f : Nat) (listed : Array Bool) (a : Act), wpAnyL P md ops w n L f listed a → wpAnyIn (Fence.wide.inRound l0) k P md ops Q' (f + g) listed a w
  | 0, listed, a, h => by rw [Nat.zero_add]; exact hL _ _ h
  | f + 1, listed, a, h => by
    rw [show f + 1 + g = (f + g) + 1 by omega]
    exact ⟨fun h0 => absurd h0 h.1, fun i hi => wpOpIn_of_stOp hnd (fun a' h' => wpAnyIn_of_head hnd hL f _ a' h') (h.2 i hi).2⟩
theorem wpAnyIn_of_seq {F : Fence} {k0 : Nat} {P : Program} {ops : Array Oper} {md : Region.Mode} {Q' : Exit → Act → World → Prop} : ∀ (l : List Oper) (k : Nat) (listed : Array Bool) (a : Act) (w : World), (∀ j, l[j]? = ops[k + j]?) →
    Region.seqB md ops l.length k listed = true → wpListIn F k0 P ops Q' l a w → wpAnyIn F k0 P md ops Q' l.length listed a w
  | [], _, _, _, _, _, hB, h => ⟨by simpa [Region.seqB] using hB, h⟩
  | o :: l, k, listed, a, w, hl, hB, h => by
    have h0 : ops[k]? = some o := by simpa using (hl 0).symm
    simp only [List.length_cons, Region.seqB, Bool.and_eq_true, decide_eq_true_eq] at hB
    refine ⟨fun h1 => (by rw [hB.1] at h1; cases h1), fun i hi => ?_⟩
    rw [hB.1] at hi
    have hik : i = k := by simpa using hi
    subst hik
    have hw : wpOpIn F k0 P ops Q' i (wpListIn F k0 P ops Q' l) a w := by unfold wpOpIn; simp only [h0]; exact h
    exact wpOpIn_mono (fun a' w' h' => wpAnyIn_of_seq l (i + 1) _ a' w' (fun j => by have := hl (j + 1); simpa [Nat.add_assoc, Nat.add_comm 1 j] using this) hB.2 h') hw
def noDefer (l : List Oper) : Bool := l.all fun o => match o.op with | .defer _ => false | _ => true
theorem noDefer_spec {l : List Oper} (h : noDefer l = true) : ∀ (j : Nat) (o : Oper), l.toArray[j]? = some o → ∀ c, o.op ≠ .defer c := by
  intro j o hj c e
  have hm : o ∈ l := by
    have : l[j]? = some o := by simpa using hj
    exact List.mem_of_getElem? this
  have := List.all_eq_true.1 h o hm
  rw [e] at this
  cases this
/-- The quiet head is walked once, in the order of the text; the tail as it stands. -/
theorem wpIn_region_still_tail {P : Program} {l0 k id : Nat} {Q : Exit → Act → World → Prop} {a : Act} {w : World} {l : List Oper} (n : Nat) (hm : P.follows .mixedOrders = true) (hB : Region.lexTailB .any l.toArray n = true) (hd : noDefer l = true)
    (h : wpStill P l.toArray { w with drawn := w.drawn + 1 } (fun a' => wpListIn (Fence.wide.inRound l0) k P l.toArray Q (l.drop n) a' { w with drawn := w.drawn + 1 }) (l.take n) a) : (Code.region id l.toArray true).wpIn (Fence.wide.inRound l0) k P Q a w := by
  simp only [Region.lexTailB, Bool.and_eq_true, decide_eq_true_eq] at hB
  obtain ⟨⟨⟨⟨hsel, hn⟩, hs⟩, hc⟩, hlex⟩ := hB
  have hn' : n < l.length := by simpa using hn
  have htl : (l.take n).length = n := by simp; omega
  have hdl : (l.drop n).length = l.toArray.size - n := by simp
  have inv0 : HeadInv .any l.toArray n (Array.replicate l.toArray.size false) :=
    ⟨by simp, fun j oj _ hl => (by rw [getD_replicate_false] at hl; cases hl), fun t _ ht => getD_in (by simpa using ht) (getD_replicate_false _ _)⟩
  have H := wpAnyL_lex (md := .any) (g := l.toArray.size - n) hsel hs hc hn (l.take n) 0 _ a (fun j hj => by
    have hj' : j < n := by rw [htl] at hj; exact hj
    simp [hj']) (by simpa using htl) inv0 (by rw [htl]; exact hlex) h
  refine wpIn_region_any hm ?_
  have := wpAnyIn_of_head (k := k) (l0 := l0) (Q' := Q) (g := l.toArray.size - n) (noDefer_spec hd) (fun listed a' hL => by
    have := wpAnyIn_of_seq (F := Fence.wide.inRound l0) (k0 := k) (md := .any) (Q' := Q) (l.drop n) n listed a' { w with drawn := w.drawn + 1 } (fun j => by simp [List.getElem?_drop]) (by rw [hdl]; exact hL.1) hL.2
    rwa [hdl] at this) _ _ _ H
  rw [htl, show n + (l.toArray.size - n) = l.toArray.size by omega] at this
  exact this
end Go.Proofs.YtcaakiaenfkeaaaGreat.kit
