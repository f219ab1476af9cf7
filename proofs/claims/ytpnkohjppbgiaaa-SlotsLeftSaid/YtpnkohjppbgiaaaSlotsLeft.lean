/-
  The statement SlotsLeft: a sequence that is left ends there.
-/
import Derived.Test.YtpnkohjppbgiaaaLogTI
import Derived.Test.YtpnkohjppbgiaaaSlotR
import Derived.Test.YtpnkohjppbgiaaaSlotAw
import Derived.Test.YtpnkohjppbgiaaaChecked
import Derived.Test.YtpnkohjppbgiaaaRows
namespace Go.Proofs.Ytpnkohjppbgiaaa.slotsLeft
open Go.ChangeShapes Go.WideShapes Go.ChangeAt Go.RowKit Go.Joins Go.Shelf
open Go.Proofs.Ytpnkohjppbgiaaa.kit Go.Proofs.Ytpnkohjppbgiaaa.logi Go.Proofs.Ytpnkohjppbgiaaa.slotr Go.Proofs.Ytpnkohjppbgiaaa.slotaw
set_option linter.unusedVariables false
set_option linter.unusedSimpArgs false
set_option maxHeartbeats 1000000
set_option maxRecDepth 100000
attribute [local go_sem] Oper.semAt_some

def leastI (stop n : Int) : Int := if 1 ≤ stop ∧ stop < n then stop else n
theorem inBlock_two {id : Nat} {Q : Exit → Act → World → Prop} {ex : Exit} {a : Act} {W : World} (h : Exit.inBlock id Q .normal a W) (hx : ex = .normal ∨ ex = .exit id) : Exit.inBlock id Q ex a W := by
  rcases hx with rfl | rfl
  · exact h
  · simpa [Exit.inBlock] using h

theorem left_ok (w : World) (f0 m0 : Int) (a : Option Addr) (l : List OpV) (cap : Nat) (stop : Int) (hl : l.length ≤ 9223372036854775807) (hat : RowsAt w a 3 (l.map ocells)) (hok : ∀ k (hk : k < l.length), (l[k]).ok) :
    Calls Try.prog 5 #[.int .i64 f0, .int .i64 m0, .slice a l.length cap, .int .i64 stop] w fun e w' => e = .returned (.bool true) ∧ Below w.heap.size w w' := by
  obtain ⟨w0, hw0⟩ : ∃ w0 : World, w0 = w.alloc (.cells #[.int .i64 stop] 3) := ⟨_, rfl⟩
  have hb0 : Below w.heap.size w w0 := by rw [hw0]; exact below_new1 _ _
  have hs0 : w0.heap[w.heap.size]? = some (.cells #[.int .i64 stop] 3 (0, 0)) := by rw [hw0]; exact hp_alloc_new w _
  have hR := ran_ok w0 f0 m0 a l cap hl (hat.below hb0) hok
  obtain ⟨b, hbb⟩ : ∃ b, b = w0.heap.size := ⟨_, rfl⟩
  obtain ⟨s, hs⟩ : ∃ s, s = stOf (min (max f0 1) 1099511627776) (min (max m0 1) 1024) l := ⟨_, rfl⟩
  obtain ⟨m, hm⟩ : ∃ m, m = min (max m0 1) 1024 := ⟨_, rfl⟩
  rw [← hs, ← hm, ← hbb] at hR
  obtain ⟨f, cs⟩ := s
  dsimp only at hR
  have hzb : w.heap.size < b := by rw [hbb]; exact (blk1 hs0).2.2
  have hbw0 : b ≤ w0.heap.size := by omega
  clear hs hat hok hbb hm
  have HR := Lib.hid hR
  clear hR
  refine (callsIn_wide (n := 5)).1 ?_
  refine callsIn_of_wp_marks Try.func5 rfl trivial ?_ rfl
  simp only [Try.ntmps5, List.size_toArray, List.length_cons, List.length_nil, Nat.reduceAdd, Nat.reduceSub, Array.replicate_succ, Array.replicate_zero, List.push_toArray, List.append_toArray, List.nil_append, List.cons_append]
  gi_wp2
  rw [← hw0]
  clear hw0
  refine ⟨trivial, ?_⟩
  refine (callsIn_wide.2 HR.out).mono ?_
  rintro e w1 ⟨rfl, hL1, hF, hb1⟩
  have hf1 := hF.f1; have hf2 := hF.f2; have hm2 := hF.m2; have hlen := hF.len
  have hl1024 : cs.length ≤ 1024 := by omega
  have hst1 : w1.heap[w.heap.size]? = some (.cells #[.int .i64 stop] 3 (0, 0)) := (hb1.block _ hzb).trans hs0
  have hB1 : Below w.heap.size w w1 := hb0.trans (Below.mono hb1 (by omega))
  have hbw1 := hb1.size
  clear HR hb0 hb1 hs0
  gi_wp2
  refine ⟨trivial, ?_⟩
  refine (callsIn_wide.2 (awake_ok w1)).mono ?_
  rintro e wA ⟨rfl, hbA⟩
  have hLA := hL1.below hbA
  have hstA := hp_step hst1 hbA
  have hBA := hB1.trans (Below.mono hbA (by have := hB1.size; omega))
  clear hL1 hst1 hB1 hbA
  gi_wp2
  refine ⟨trivial, ?_⟩
  have hbB := below_new1 wA (.cells #[.int .i64 0] 3)
  have hnB : (wA.alloc (.cells #[.int .i64 0] 3)).heap[wA.heap.size]? = some (.cells #[.int .i64 0] 3 (0, 0)) := hp_alloc_new _ _
  have hsB : (wA.alloc (.cells #[.int .i64 0] 3)).heap.size = wA.heap.size + 1 := size_new _ _
  refine (callsIn_wide.2 (all_ok _ _ _ _ _ _ (hLA.below hbB) hF)).mono ?_
  rintro e w4 ⟨B, B', rfl, hit, hb4⟩
  have hn4 := hp_step hnB hb4
  have hb4' : Below wA.heap.size wA w4 := below_step hbB hb4
  have hs4 := hb4.size
  rw [hsB] at hs4 hit
  clear hbB hnB hb4 hsB
  gi_wp2
  refine Code.wpIn_mono (Q := fun ex act W => (ex = .normal ∨ ex = .exit 0) ∧ ∃ D1, act = { tmps := #[.int .i64 f0, .int .i64 m0, .slice a l.length cap, .int .i64 stop, undef, undef, undef, .pointer (some ⟨w.heap.size, 0, none⟩), .bool false, .pointer (some ⟨b, 0, none⟩), .pointer (some ⟨wA.heap.size, 0, none⟩), undef, undef, undef, undef, undef, undef, undef, .int .i64 f0, .int .i64 m0, .slice a l.length cap, .pointer (some ⟨b, 0, none⟩), .bool true, .bool false, .bool false, .pointer (some ⟨b, 0, none⟩), .bool false, .bool false, .pointer (some ⟨b, 0, none⟩), .func (.func 57) #[] #[.pointer (some ⟨B, 0, none⟩), .pointer (some ⟨B', 0, none⟩)], undef, undef, undef, undef, undef, undef, undef, undef, undef, undef, undef, undef, undef, undef, undef, undef, undef, undef, undef, undef, undef, undef, undef, undef, undef, undef, undef, undef, undef, undef, undef, undef, undef, undef, undef, undef, undef, undef, undef, undef, undef, undef, undef, undef, undef, undef, undef, undef, undef, undef, undef, undef, undef], defers := [{ target := .collected D1, args := #[] }] } ∧ W.heap[D1]? = some (.deferred (some [])) ∧ w4.heap.size ≤ D1 ∧ W.heap[wA.heap.size]? = some (.cells #[.int .i64 (leastI stop ((allF f cs).length : Nat))] 3 (0, 0)) ∧ Below wA.heap.size wA W) ?imp1 ?loop1
  case loop1 =>
    refine wpIn_rangeFunc_ownF rfl (by omega) (gf := 57) (lb := #[.pointer (some ⟨B, 0, none⟩), .pointer (some ⟨B', 0, none⟩)]) rfl trivial (enters_of Try.func57 (by kernel_rfl) rfl)
      (all_it 4 (by omega) _ _ B B' f cs w4 hit (by omega) (by omega) hf2 hl1024) Between.trans (between_b (by omega)) (Below.refl _ _) (fun _ => rfl)
      (fun pre W => W.heap[wA.heap.size]? = some (.cells #[.int .i64 (pre.length : Nat)] 3 (0, 0)) ∧ Below wA.heap.size wA W ∧ (stop < 1 ∨ (pre.length : Int) < stop))
      (fun c pre W => W.heap[wA.heap.size]? = some (.cells #[.int .i64 (pre.length : Nat)] 3 (0, 0)) ∧ Below wA.heap.size wA W ∧ (c = .exit 0 ∧ 1 ≤ stop ∧ (pre.length : Int) = stop))
      (OwnFrom.and (Own.from (I := fun (pre : List (Int × Int)) W => W.heap[wA.heap.size]? = some (.cells #[.int .i64 (pre.length : Nat)] 3 (0, 0))) (fun s A B row hs hg hr => blk_kept hs hg hr) _) (OwnFrom.and (ownFrom_below (Nat.le_refl _) (by omega)) (ownFrom_pure _ (fun (pre : List (Int × Int)) => stop < 1 ∨ (pre.length : Int) < stop))))
      (fun c => OwnFrom.and (Own.from (I := fun (pre : List (Int × Int)) W => W.heap[wA.heap.size]? = some (.cells #[.int .i64 (pre.length : Nat)] 3 (0, 0))) (fun s A B row hs hg hr => blk_kept hs hg hr) _) (OwnFrom.and (ownFrom_below (Nat.le_refl _) (by omega)) (ownFrom_pure _ (fun (pre : List (Int × Int)) => c = .exit 0 ∧ 1 ≤ stop ∧ (pre.length : Int) = stop))))
      ⟨hn4, hb4', by simp; omega⟩
      (fun x => { tmps := #[.int .i64 f0, .int .i64 m0, .slice a l.length cap, .int .i64 stop, undef, undef, undef, .pointer (some ⟨w.heap.size, 0, none⟩), .bool false, .pointer (some ⟨b, 0, none⟩), .pointer (some ⟨wA.heap.size, 0, none⟩), undef, undef, undef, undef, undef, undef, undef, .int .i64 f0, .int .i64 m0, .slice a l.length cap, .pointer (some ⟨b, 0, none⟩), .bool true, .bool false, .bool false, .pointer (some ⟨b, 0, none⟩), .bool false, .bool false, .pointer (some ⟨b, 0, none⟩), .func (.func 57) #[] #[.pointer (some ⟨B, 0, none⟩), .pointer (some ⟨B', 0, none⟩)], .int .i64 x.1, .int .i64 x.2, undef, undef, undef, undef, undef, undef, undef, undef, undef, undef, undef, undef, undef, undef, undef, undef, undef, undef, undef, undef, undef, undef, undef, undef, undef, undef, undef, undef, undef, undef, undef, undef, undef, undef, undef, undef, undef, undef, undef, undef, undef, undef, undef, undef, undef, undef, undef, undef, undef, undef, undef], defers := [] }) ?assign1 ?body1 ?done1 ?stop1
    case assign1 =>
      intro l x W K hK
      gi_wp2
      simpa using hK
    case body1 =>
      rintro l pre x W ⟨hc, hB, hst⟩ hlt
      have hlen2 := allF_len f cs
      obtain ⟨q0, q1, q2⟩ := blk1 hc
      have hs1 := (blk1 (hp_step hstA hB)).1
      have hzs := (blk1 (hp_step hstA hB)).2.2
      have hsne : w.heap.size ≠ wA.heap.size := by have := (blk1 hstA).2.2; omega
      have HC := Lib.hid (hp_set (v := .int .i64 ((pre.length : Int) + 1)) hc 0)
      have HB := Lib.hid (hB.setCell (p := ⟨wA.heap.size, 0, none⟩) (Nat.le_refl _) (.int .i64 ((pre.length : Int) + 1)))
      have hw : IntKind.i64.wrap ((pre.length : Int) + 1) = (pre.length : Int) + 1 := IntWalk.i64_in _ (by omega)
      have HS := Lib.hid hst
      clear hc hB hst
      by_cases hx : (pre.length : Int) + 1 = stop
      · have HX := Lib.hid hx
        have hdec : decide ((pre.length : Int) + 1 = stop) = true := decide_eq_true hx
        have hbeq : (((pre.length : Int) + 1) == stop) = true := by simpa using hx
        gi_wp2
        have HC1 := HC.out
        have HB1 := HB.out
        rw [hx] at HC1 HB1
        exact ⟨KeepsOthers.setCell _ _ _, by rw [List.length_append, List.length_singleton, Int.natCast_add, show ((pre.length : Int) + ((1 : Nat) : Int)) = stop from HX.out]; exact HC1, HB1, rfl, by have := HX.out; omega, by rw [List.length_append, List.length_singleton, Int.natCast_add]; exact HX.out⟩
      · have HX := Lib.hid hx
        have hdec : decide ((pre.length : Int) + 1 = stop) = false := decide_eq_false hx
        have hbeq : (((pre.length : Int) + 1) == stop) = false := by simpa using hx
        gi_wp2
        exact ⟨KeepsOthers.setCell _ _ _, (Between.refl _ _ _).setCell ⟨wA.heap.size, 0, none⟩ (.inl (Nat.lt_succ_self _)) _, by rw [List.length_append, List.length_singleton, Int.natCast_add]; exact HC.out, HB.out, by rw [List.length_append, List.length_singleton, Int.natCast_add]; have := HX.out; have := HS.out; omega⟩
    case done1 =>
      rintro D ys W hD rfl ⟨hc, hB, hst⟩ hK
      have hle : leastI stop ((allF f cs).length : Nat) = ((allF f cs).length : Nat) := by rw [leastI, if_neg (by omega)]
      exact ⟨.inl rfl, D, rfl, hK, hD, by rw [hle]; exact hc, hB⟩
    case stop1 =>
      rintro D c pre W hD hpre ⟨hc, hB, rfl, hst1, hst2⟩ hK
      have hpl := hpre.length_le
      have hle : leastI stop ((allF f cs).length : Nat) = (pre.length : Nat) := by unfold leastI; split <;> omega
      gi_wp2
      all_goals exact ⟨.inr rfl, D, rfl, hK, hD, by rw [hle]; exact hc, hB⟩
  case imp1 =>
    rintro ex act W1 ⟨hex, D1, rfl, hK1, hD1, hn1, hB1⟩
    refine inBlock_two ?_ hex
    clear hex hit hn4 hb4'
    have hL1 := hLA.below hB1
    have hst1 := hp_step hstA hB1
    have hBw1 := hBA.trans (Below.mono hB1 (by have := hBA.size; omega))
    have hzn := (blk1 hn1).2.2
    have hsz1 := hB1.size
    have hzD1 : D1 < W1.heap.size := (Array.getElem?_eq_some_iff.1 hK1).1
    have hzAs := (blk1 hstA).2.2
    clear hLA hstA hBA hB1
    gi_wp2
    refine ⟨trivial, ?_⟩
    have hbB := below_new1 W1 (.cells #[.int .i64 0] 3)
    have hnB : (W1.alloc (.cells #[.int .i64 0] 3)).heap[W1.heap.size]? = some (.cells #[.int .i64 0] 3 (0, 0)) := hp_alloc_new _ _
    have hsB : (W1.alloc (.cells #[.int .i64 0] 3)).heap.size = W1.heap.size + 1 := size_new _ _
    refine (callsIn_wide.2 (holes_ok _ _ _ _ _ _ (hL1.below hbB) hF)).mono ?_
    rintro e w5 ⟨O, O', rfl, hit5, hb5⟩
    have hn5 := hp_step hnB hb5
    have hb5' : Below W1.heap.size W1 w5 := below_step hbB hb5
    have hs5 := hb5.size
    rw [hsB] at hs5 hit5
    clear hbB hnB hb5 hsB
    gi_wp2
    refine Code.wpIn_mono (Q := fun ex act W => (ex = .normal ∨ ex = .exit 2) ∧ ∃ D2, act = { tmps := #[.int .i64 f0, .int .i64 m0, .slice a l.length cap, .int .i64 stop, undef, undef, undef, .pointer (some ⟨w.heap.size, 0, none⟩), .bool false, .pointer (some ⟨b, 0, none⟩), .pointer (some ⟨wA.heap.size, 0, none⟩), .pointer (some ⟨W1.heap.size, 0, none⟩), undef, undef, undef, undef, undef, undef, .int .i64 f0, .int .i64 m0, .slice a l.length cap, .pointer (some ⟨b, 0, none⟩), .bool true, .bool false, .bool false, .pointer (some ⟨b, 0, none⟩), .bool false, .bool false, .pointer (some ⟨b, 0, none⟩), .func (.func 57) #[] #[.pointer (some ⟨B, 0, none⟩), .pointer (some ⟨B', 0, none⟩)], undef, undef, undef, undef, undef, undef, undef, .pointer (some ⟨b, 0, none⟩), .func (.func 58) #[] #[.pointer (some ⟨O, 0, none⟩), .pointer (some ⟨O', 0, none⟩)], undef, undef, undef, undef, undef, undef, undef, undef, undef, undef, undef, undef, undef, undef, undef, undef, undef, undef, undef, undef, undef, undef, undef, undef, undef, undef, undef, undef, undef, undef, undef, undef, undef, undef, undef, undef, undef, undef, undef, undef, undef, undef, undef, undef], defers := [{ target := .collected D2, args := #[] }, { target := .collected D1, args := #[] }] } ∧ W.heap[D2]? = some (.deferred (some [])) ∧ w5.heap.size ≤ D2 ∧ W.heap[W1.heap.size]? = some (.cells #[.int .i64 (leastI stop ((holesF f cs).length : Nat))] 3 (0, 0)) ∧ Below W1.heap.size W1 W) ?imp2 ?loop2
    case loop2 =>
      refine wpIn_rangeFunc_ownF rfl (by omega) (gf := 58) (lb := #[.pointer (some ⟨O, 0, none⟩), .pointer (some ⟨O', 0, none⟩)]) rfl trivial (enters_of Try.func58 (by kernel_rfl) rfl)
        (holes_it 4 (by omega) _ _ O O' f cs w5 hit5 (by omega) (by omega) hf2 hl1024) Between.trans (between_b (by omega)) (Below.refl _ _) (fun _ => rfl)
        (fun pre W => W.heap[W1.heap.size]? = some (.cells #[.int .i64 (pre.length : Nat)] 3 (0, 0)) ∧ Below W1.heap.size W1 W ∧ (stop < 1 ∨ (pre.length : Int) < stop))
        (fun c pre W => W.heap[W1.heap.size]? = some (.cells #[.int .i64 (pre.length : Nat)] 3 (0, 0)) ∧ Below W1.heap.size W1 W ∧ (c = .exit 2 ∧ 1 ≤ stop ∧ (pre.length : Int) = stop))
        (OwnFrom.and (Own.from (I := fun (pre : List Int) W => W.heap[W1.heap.size]? = some (.cells #[.int .i64 (pre.length : Nat)] 3 (0, 0))) (fun s A B row hs hg hr => blk_kept hs hg hr) _) (OwnFrom.and (ownFrom_below (Nat.le_refl _) (by omega)) (ownFrom_pure _ (fun (pre : List Int) => stop < 1 ∨ (pre.length : Int) < stop))))
        (fun c => OwnFrom.and (Own.from (I := fun (pre : List Int) W => W.heap[W1.heap.size]? = some (.cells #[.int .i64 (pre.length : Nat)] 3 (0, 0))) (fun s A B row hs hg hr => blk_kept hs hg hr) _) (OwnFrom.and (ownFrom_below (Nat.le_refl _) (by omega)) (ownFrom_pure _ (fun (pre : List Int) => c = .exit 2 ∧ 1 ≤ stop ∧ (pre.length : Int) = stop))))
        ⟨hn5, hb5', by simp; omega⟩
        (fun x => { tmps := #[.int .i64 f0, .int .i64 m0, .slice a l.length cap, .int .i64 stop, undef, undef, undef, .pointer (some ⟨w.heap.size, 0, none⟩), .bool false, .pointer (some ⟨b, 0, none⟩), .pointer (some ⟨wA.heap.size, 0, none⟩), .pointer (some ⟨W1.heap.size, 0, none⟩), undef, undef, undef, undef, undef, undef, .int .i64 f0, .int .i64 m0, .slice a l.length cap, .pointer (some ⟨b, 0, none⟩), .bool true, .bool false, .bool false, .pointer (some ⟨b, 0, none⟩), .bool false, .bool false, .pointer (some ⟨b, 0, none⟩), .func (.func 57) #[] #[.pointer (some ⟨B, 0, none⟩), .pointer (some ⟨B', 0, none⟩)], undef, undef, undef, undef, undef, undef, undef, .pointer (some ⟨b, 0, none⟩), .func (.func 58) #[] #[.pointer (some ⟨O, 0, none⟩), .pointer (some ⟨O', 0, none⟩)], .int .i64 x, undef, undef, undef, undef, undef, undef, undef, undef, undef, undef, undef, undef, undef, undef, undef, undef, undef, undef, undef, undef, undef, undef, undef, undef, undef, undef, undef, undef, undef, undef, undef, undef, undef, undef, undef, undef, undef, undef, undef, undef, undef, undef, undef], defers := [] }) ?assign2 ?body2 ?done2 ?stop2
      case assign2 =>
        intro l x W K hK
        gi_wp2
        simpa using hK
      case body2 =>
        rintro l pre x W ⟨hc, hB, hst⟩ hlt
        have hlen2 := holesF_len f cs
        obtain ⟨q0, q1, q2⟩ := blk1 hc
        have hs1 := (blk1 (hp_step hst1 hB)).1
        have hzs := (blk1 (hp_step hst1 hB)).2.2
        have hsne : w.heap.size ≠ W1.heap.size := by have := (blk1 hst1).2.2; omega
        have HC := Lib.hid (hp_set (v := .int .i64 ((pre.length : Int) + 1)) hc 0)
        have HB := Lib.hid (hB.setCell (p := ⟨W1.heap.size, 0, none⟩) (Nat.le_refl _) (.int .i64 ((pre.length : Int) + 1)))
        have hw : IntKind.i64.wrap ((pre.length : Int) + 1) = (pre.length : Int) + 1 := IntWalk.i64_in _ (by omega)
        have HS := Lib.hid hst
        clear hc hB hst
        by_cases hx : (pre.length : Int) + 1 = stop
        · have HX := Lib.hid hx
          have hdec : decide ((pre.length : Int) + 1 = stop) = true := decide_eq_true hx
          have hbeq : (((pre.length : Int) + 1) == stop) = true := by simpa using hx
          gi_wp2
          have HC1 := HC.out
          have HB1 := HB.out
          rw [hx] at HC1 HB1
          exact ⟨KeepsOthers.setCell _ _ _, by rw [List.length_append, List.length_singleton, Int.natCast_add, show ((pre.length : Int) + ((1 : Nat) : Int)) = stop from HX.out]; exact HC1, HB1, rfl, by have := HX.out; omega, by rw [List.length_append, List.length_singleton, Int.natCast_add]; exact HX.out⟩
        · have HX := Lib.hid hx
          have hdec : decide ((pre.length : Int) + 1 = stop) = false := decide_eq_false hx
          have hbeq : (((pre.length : Int) + 1) == stop) = false := by simpa using hx
          gi_wp2
          exact ⟨KeepsOthers.setCell _ _ _, (Between.refl _ _ _).setCell ⟨W1.heap.size, 0, none⟩ (.inl (Nat.lt_succ_self _)) _, by rw [List.length_append, List.length_singleton, Int.natCast_add]; exact HC.out, HB.out, by rw [List.length_append, List.length_singleton, Int.natCast_add]; have := HX.out; have := HS.out; omega⟩
      case done2 =>
        rintro D ys W hD rfl ⟨hc, hB, hst⟩ hK
        have hle : leastI stop ((holesF f cs).length : Nat) = ((holesF f cs).length : Nat) := by rw [leastI, if_neg (by omega)]
        exact ⟨.inl rfl, D, rfl, hK, hD, by rw [hle]; exact hc, hB⟩
      case stop2 =>
        rintro D c pre W hD hpre ⟨hc, hB, rfl, hst1, hst2⟩ hK
        have hpl := hpre.length_le
        have hle : leastI stop ((holesF f cs).length : Nat) = (pre.length : Nat) := by unfold leastI; split <;> omega
        gi_wp2
        all_goals exact ⟨.inr rfl, D, rfl, hK, hD, by rw [hle]; exact hc, hB⟩
    case imp2 =>
      rintro ex act W2 ⟨hex, D2, rfl, hK2, hD2, hn2, hB2⟩
      refine inBlock_two ?_ hex
      clear hex hit5 hn5 hb5'
      have hL2 := hL1.below hB2
      have hst2 := hp_step hst1 hB2
      have hn1' := hp_step hn1 hB2
      have hK1' := hp_step hK1 hB2
      have hBw2 := hBw1.trans (Below.mono hB2 (by have := hBw1.size; omega))
      have hsz2 := hB2.size
      have hzD2 : D2 < W2.heap.size := (Array.getElem?_eq_some_iff.1 hK2).1
      clear hL1 hst1 hn1 hK1 hB2
      gi_wp2
      refine ⟨trivial, ?_⟩
      refine (callsIn_wide.2 (told_ok W2 _ _ _ _ _ hL2 hF)).mono ?_
      rintro e W3 ⟨v0, v1, v2, rfl, hb3, ho0, ho1, ho2⟩
      obtain ⟨a0, c0, rfl⟩ := own_shape ho0
      obtain ⟨a1, c1, rfl⟩ := own_shape ho1
      obtain ⟨a2, c2, rfl⟩ := own_shape ho2
      have hst3 := (blk1 (hp_step hst2 hb3)).1
      have hn3 := (blk1 (hp_step hn1' hb3)).1
      have hm3 := (blk1 (hp_step hn2 hb3)).1
      have hK3 := hp_step hK2 hb3
      have hK3' := hp_step hK1' hb3
      have hB3 := Lib.hid (below_step hBw2 hb3)
      clear ho0 ho1 ho2 hst2 hn1' hK1' hK2 hL2 hb3 hn2 hBw1 hBw2
      by_cases c1 : stop < 1
      · rw [leastI, if_neg (by omega)] at hn3 hm3
        gi_wp2
        refine ⟨by simp, .inl ⟨_, _, rfl, run_takeDeferred hK3, ?_⟩⟩
        have q1 := (put_keeps (o := .deferred none) (rfl : W3.putObj D2 (.deferred none) = _)).2 D1 (by omega) (by have := (Array.getElem?_eq_some_iff.1 hK3').1; omega)
        have hK4 := q1.trans hK3'
        refine ⟨by simp, .inl ⟨_, _, rfl, run_takeDeferred hK4, ?_⟩⟩
        have hBx := belowK_b (w := w) (Nat.le_refl _) W3 D2 _ (.deferred none) (by omega) hK3 rfl rfl
        have hBy := belowK_b (w := w) (Nat.le_refl _) (W3.putObj D2 (.deferred none)) D1 _ (.deferred none) (by omega) hK4 rfl rfl
        exact ⟨_, results_tmp rfl _ _ _, rfl, (hB3.out.trans hBx).trans hBy⟩
      · have c1q : 1 ≤ stop := by omega
        by_cases c2 : stop < ((allF f cs).length : Int)
        · by_cases c3 : stop < ((holesF f cs).length : Int)
          · rw [leastI, if_pos ⟨c1q, c2⟩] at hn3
            rw [leastI, if_pos ⟨c1q, c3⟩] at hm3
            gi_wp2
            refine ⟨by simp, .inl ⟨_, _, rfl, run_takeDeferred hK3, ?_⟩⟩
            have q1 := (put_keeps (o := .deferred none) (rfl : W3.putObj D2 (.deferred none) = _)).2 D1 (by omega) (by have := (Array.getElem?_eq_some_iff.1 hK3').1; omega)
            have hK4 := q1.trans hK3'
            refine ⟨by simp, .inl ⟨_, _, rfl, run_takeDeferred hK4, ?_⟩⟩
            have hBx := belowK_b (w := w) (Nat.le_refl _) W3 D2 _ (.deferred none) (by omega) hK3 rfl rfl
            have hBy := belowK_b (w := w) (Nat.le_refl _) (W3.putObj D2 (.deferred none)) D1 _ (.deferred none) (by omega) hK4 rfl rfl
            exact ⟨_, results_tmp rfl _ _ _, rfl, (hB3.out.trans hBx).trans hBy⟩
          · rw [leastI, if_pos ⟨c1q, c2⟩] at hn3
            rw [leastI, if_neg (fun h => c3 h.2)] at hm3
            gi_wp2
            refine ⟨by simp, .inl ⟨_, _, rfl, run_takeDeferred hK3, ?_⟩⟩
            have q1 := (put_keeps (o := .deferred none) (rfl : W3.putObj D2 (.deferred none) = _)).2 D1 (by omega) (by have := (Array.getElem?_eq_some_iff.1 hK3').1; omega)
            have hK4 := q1.trans hK3'
            refine ⟨by simp, .inl ⟨_, _, rfl, run_takeDeferred hK4, ?_⟩⟩
            have hBx := belowK_b (w := w) (Nat.le_refl _) W3 D2 _ (.deferred none) (by omega) hK3 rfl rfl
            have hBy := belowK_b (w := w) (Nat.le_refl _) (W3.putObj D2 (.deferred none)) D1 _ (.deferred none) (by omega) hK4 rfl rfl
            exact ⟨_, results_tmp rfl _ _ _, rfl, (hB3.out.trans hBx).trans hBy⟩
        · by_cases c3 : stop < ((holesF f cs).length : Int)
          · rw [leastI, if_neg (fun h => c2 h.2)] at hn3
            rw [leastI, if_pos ⟨c1q, c3⟩] at hm3
            gi_wp2
            refine ⟨by simp, .inl ⟨_, _, rfl, run_takeDeferred hK3, ?_⟩⟩
            have q1 := (put_keeps (o := .deferred none) (rfl : W3.putObj D2 (.deferred none) = _)).2 D1 (by omega) (by have := (Array.getElem?_eq_some_iff.1 hK3').1; omega)
            have hK4 := q1.trans hK3'
            refine ⟨by simp, .inl ⟨_, _, rfl, run_takeDeferred hK4, ?_⟩⟩
            have hBx := belowK_b (w := w) (Nat.le_refl _) W3 D2 _ (.deferred none) (by omega) hK3 rfl rfl
            have hBy := belowK_b (w := w) (Nat.le_refl _) (W3.putObj D2 (.deferred none)) D1 _ (.deferred none) (by omega) hK4 rfl rfl
            exact ⟨_, results_tmp rfl _ _ _, rfl, (hB3.out.trans hBx).trans hBy⟩
          · rw [leastI, if_neg (fun h => c2 h.2)] at hn3
            rw [leastI, if_neg (fun h => c3 h.2)] at hm3
            gi_wp2
            refine ⟨by simp, .inl ⟨_, _, rfl, run_takeDeferred hK3, ?_⟩⟩
            have q1 := (put_keeps (o := .deferred none) (rfl : W3.putObj D2 (.deferred none) = _)).2 D1 (by omega) (by have := (Array.getElem?_eq_some_iff.1 hK3').1; omega)
            have hK4 := q1.trans hK3'
            refine ⟨by simp, .inl ⟨_, _, rfl, run_takeDeferred hK4, ?_⟩⟩
            have hBx := belowK_b (w := w) (Nat.le_refl _) W3 D2 _ (.deferred none) (by omega) hK3 rfl rfl
            have hBy := belowK_b (w := w) (Nat.le_refl _) (W3.putObj D2 (.deferred none)) D1 _ (.deferred none) (by omega) hK4 rfl rfl
            exact ⟨_, results_tmp rfl _ _ _, rfl, (hB3.out.trans hBx).trans hBy⟩

theorem lawWalk {H : Type} (enc : TypeId × Value → H) : LawWalk enc Try.prog 5 Try.f5 (fun _ => True) := by
  intro W base args ds p hval hA hsz _
  rw [Try.params5] at hA hval
  obtain ⟨v0, vs0, d0, ds0, p0, q0, hargs, rfl, rfl, h0, r0⟩ := trodAll_cons hA
  obtain ⟨v1, vs1, d1, ds1, p1, q1, rfl, rfl, rfl, h1, r1⟩ := trodAll_cons r0
  obtain ⟨v2, vs2, d2, ds2, p2, q2, rfl, rfl, rfl, h2, r2⟩ := trodAll_cons r1
  obtain ⟨v3, vs3, d3, ds3, p3, q3, rfl, rfl, rfl, h3, r3⟩ := trodAll_cons r2
  obtain ⟨rfl, rfl, rfl⟩ := trodAll_nil r3
  obtain rfl : args = #[v0, v1, v2, v3] := by cases args; simp_all
  obtain ⟨f0, rfl, rfl, rfl, w0⟩ := open_int Try.underlying3 (hval 0 3 v0 rfl rfl) h0
  obtain ⟨m0, rfl, rfl, rfl, w1⟩ := open_int Try.underlying3 (hval 1 3 v1 rfl rfl) h1
  obtain ⟨a, l, cap, es, sp, rfl, hlc, hcm, hn, hat, hd, hel, hsp, hgood⟩ := open_slice_gen 3 ocells (fun o _ => o.ok) Try.underlying22 (by kernel_rfl) (by omega) (fun n cs y _ h => elem_op n cs y h) (hval 2 22 v2 rfl rfl) h2
  obtain ⟨i0, rfl, rfl, rfl, w3⟩ := open_int Try.underlying3 (hval 3 3 v3 rfl rfl) h3
  exact left_ok W f0 m0 a l cap i0 (by unfold maxLen at hcm; omega) hat (fun k hk => hgood k hk (by omega))

theorem own : ownKnob Try.prog.godebug = none := by kernel_rfl
theorem laidOut : laidOutB Try.prog = true := by kernel_rfl

set_option maxRecDepth 100000 in
theorem lifted (os : Os) (started : os.Started) (H : Type) (enc : TypeId × Value → H) :
    ReturnsInHanded {} Try.checked os 5 .any (Rows.slotsLeftSpec.pre6 enc Try.prog Try.f5 Rows.slotsLeftRow.domain false) (Rows.slotsLeftSpec.post enc Try.prog Try.f5 false true false false) := by
  refine returnsInHanded_of_change_sized (C := Try.checked) own started (by kernel_rfl) Try.func5
    (ChangeSpec.witness6 (enc := enc) (C := Try.checked) false ⟨#[], #[.int .i64 0, .int .i64 0, .slice none 0 0, .int .i64 0], []⟩ 8 (by kernel_rfl) (by kernel_rfl) (by kernel_rfl) (by kernel_rfl)) ?_
  intro W base args ds gs before hval hW hcnd hsz _
  exact law_post (C := Try.checked) laidOut (fun ds h => by match ds, h with | [_, _, _, _], _ => rfl) 4 rfl Try.underlying4 rfl (by kernel_rfl) hval hW hsz trivial (lawWalk enc)

theorem proved : Rows.SlotsLeftSaid :=
  OpenClaim.holds_of_wide 5 Try.f5 rfl rfl rfl rfl rfl rfl rfl ⟨rfl, rfl, rfl, rfl, rfl⟩ rfl rfl rfl rfl rfl (by kernel_rfl) Try.func5 (by kernel_rfl)
    (of_decide_eq_true (by kernel_rfl)) (by unfold Func.isWrapper; first | (rw [if_pos (by decide +kernel)]; kernel_rfl) | (rw [if_neg (by decide +kernel)]; exact ⟨rfl, rfl⟩))
    (fun os started H enc _ => lifted os started H enc)
#print axioms proved
end Go.Proofs.Ytpnkohjppbgiaaa.slotsLeft
