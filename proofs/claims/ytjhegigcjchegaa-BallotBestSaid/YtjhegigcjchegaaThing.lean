/-
  Contracts of ballot.Best at the statements' things, whose closure counts how often it is asked.
-/
import Derived.Test.YtjhegigcjchegaaMost
namespace Go.Proofs.Ytjhegigcjchegaa.bal
open Go.ChangeShapes Go.WideShapes Go.ChangeAt Go.RowKit
open Go.Proofs.Ytjhegigcjchegaa.kit
set_option linter.unusedVariables false
set_option linter.unusedSimpArgs false
set_option maxHeartbeats 2000000

theorem ask_any (r n m q : Int) (c : Nat) (w : World) (hc : w.heap[c]? = some (.cells #[.int .i64 q] 3 (0, 0))) (hq : 0 ≤ q ∧ q < 9223372036854775807) :
    Calls Try.prog 13 #[.agg #[.int .i64 r, .int .i64 n, .int .i64 m], .pointer (some ⟨c, 0, none⟩)] w
      fun e w' => e = .returned (.agg #[.int .i64 r, .int .i64 n]) ∧ Keep (· = c) w w' ∧ w'.heap[c]? = some (.cells #[.int .i64 (q + 1)] 3 (0, 0)) := by
  obtain ⟨c0, f0, z0⟩ := blk1 hc
  have HC := Lib.hid hc
  clear hc
  go_enter Try.func13, Try.ntmps13
  go_wp2
  refine bodyPost_ret (v := .agg #[.int .i64 r, .int .i64 n]) (by simp [results, Try.results13, go_sem]) rfl ⟨rfl, (((Keep.refl (· = c) w).setCell (p := ⟨c, 0, none⟩) (.inr rfl) _).alloc _).alloc _, hp_new (hp_new (put1_at HC.out))⟩

/-- The first thing whose ballot no other's is above. -/
def upperT (b c : Int × Int × Int) : Int × Int × Int := if lessB b.1 b.2.1 c.1 c.2.1 then c else b
def bestT : List (Int × Int × Int) → Int × Int × Int
  | [] => (0, 0, 0)
  | x :: l => l.foldl upperT x
theorem bestT_snoc (l : List (Int × Int × Int)) (x : Int × Int × Int) : bestT (l ++ [x]) = if l = [] then x else upperT (bestT l) x := by
  cases l with
  | nil => simp [bestT]
  | cons y l => simp [bestT, List.foldl_append]

theorem hp_drew (w : World) (k : Nat) : w.drew.heap[k]? = w.heap[k]? := rfl
theorem stepT {B : Nat} {w1 : World} {T U : TypeId} {v0 v1 v2 x0 x1 x2 y0 y1 u v t u' v' : Value} {c : Nat} {z : Obj} (hc : c < B) (h3 : w1.heap[c]? = some z)
    (h0 : w1.heap[B]? = some (.cells #[v0, v1, v2] T (0, 0))) (h1 : w1.heap[B + 1]? = some (.cells #[x0, x1, x2] T (0, 0))) (h2 : w1.heap[B + 1 + 1]? = some (.cells #[y0, y1] U (0, 0))) :
    let W := (put2 (put3 w1 (B + 1) u v t) (B + 1 + 1) u' v').drew
    W.heap[B]? = some (.cells #[v0, v1, v2] T (0, 0)) ∧ W.heap[B + 1]? = some (.cells #[u, v, t] T (0, 0)) ∧ W.heap[B + 1 + 1]? = some (.cells #[u', v'] U (0, 0)) ∧ B + 1 + 1 < W.heap.size ∧ W.heap[c]? = some z := by
  have e1 : (put2 (put3 w1 (B + 1) u v t) (B + 1 + 1) u' v').heap[B + 1 + 1]? = some (.cells #[u', v'] U (0, 0)) := put2_at (by rw [put3_ne (by omega)]; exact h2)
  generalize hq : put3 w1 (B + 1) u v t = w2 at *
  generalize hp : put2 w2 (B + 1 + 1) u' v' = w3 at *
  refine ⟨?_, ?_, ?_, ?_, ?_⟩
  · rw [hp_drew, ← hp, put2_ne (by omega), ← hq, put3_ne (by omega)]; exact h0
  · rw [hp_drew, ← hp, put2_ne (by omega), ← hq]; exact put3_at h1
  · rw [hp_drew]; exact e1
  · exact (Array.getElem?_eq_some_iff.1 e1).1
  · rw [hp_drew, ← hp, put2_ne (by omega), ← hq, put3_ne (by omega)]; exact h3
theorem put2_keep {S : Nat → Prop} {a w : World} (h : Keep S a w) {b : Nat} (hb : a.heap.size ≤ b ∨ S b) (u v : Value) : Keep S a (put2 w b u v) := (h.setCell (p := ⟨b, 0, none⟩) hb u).setCell (p := ⟨b, 1, none⟩) hb v
theorem put3_keep {S : Nat → Prop} {a w : World} (h : Keep S a w) {b : Nat} (hb : a.heap.size ≤ b ∨ S b) (u v t : Value) : Keep S a (put3 w b u v t) := ((h.setCell (p := ⟨b, 0, none⟩) hb u).setCell (p := ⟨b, 1, none⟩) hb v).setCell (p := ⟨b, 2, none⟩) hb t

theorem best_thing (l : List (Int × Int × Int)) (b off cap c : Nat) (w : World) (hl : l.length ≤ 9223372036854775806) (hbl : b < w.heap.size) (hbc : b ≠ c) (hcq : w.heap[c]? = some (.cells #[.int .i64 0] 3 (0, 0)))
    (hat : ∀ i (hi : i < l.length), w.cell? ⟨b, off + i * 3, none⟩ = some (.int .i64 l[i].1) ∧ w.cell? ⟨b, off + i * 3 + 1, none⟩ = some (.int .i64 l[i].2.1) ∧ w.cell? ⟨b, off + i * 3 + 2, none⟩ = some (.int .i64 l[i].2.2)) :
    Calls Try.prog 12 #[.slice (some ⟨b, off, none⟩) l.length cap, .func (.func 13) #[] #[.pointer (some ⟨c, 0, none⟩)]] w
      fun e w' => e = .returned (.tuple #[.agg #[.int .i64 (bestT l).1, .int .i64 (bestT l).2.1, .int .i64 (bestT l).2.2], .bool (decide (0 < l.length))]) ∧ Keep (· = c) w w' ∧ w'.heap[c]? = some (.cells #[.int .i64 l.length] 3 (0, 0)) := by
  have hcl : c < w.heap.size := (Array.getElem?_eq_some_iff.1 hcq).1
  have HA := Lib.hid hat
  have HC := Lib.hid hcq
  clear hat hcq
  go_enter Try.func12, Try.ntmps12
  go_wp2_with fail
  go_loopw [13] (fun i wr => ∃ k : Nat, k ≤ l.length ∧ i = .int .i64 k ∧ Keep (· = c) w wr ∧ w.heap.size + 1 + 1 < wr.heap.size ∧ wr.heap[w.heap.size]? = some (.cells #[.int .i64 0, .int .i64 0, .int .i64 0] 33 (0, 0)) ∧
      wr.heap[w.heap.size + 1]? = some (.cells #[.int .i64 (bestT (l.take k)).1, .int .i64 (bestT (l.take k)).2.1, .int .i64 (bestT (l.take k)).2.2] 33 (0, 0)) ∧ wr.heap[w.heap.size + 1 + 1]? = some (.cells #[.int .i64 (bestT (l.take k)).1, .int .i64 (bestT (l.take k)).2.1] 23 (0, 0)) ∧ wr.heap[c]? = some (.cells #[.int .i64 k] 3 (0, 0)))
    (fun i _ => l.length - (intOf i).toNat)
  case atStart =>
    obtain ⟨n0, n1, n2, n3⟩ := new3 w (.cells #[.int .i64 0, .int .i64 0, .int .i64 0] 33) (.cells #[.int .i64 0, .int .i64 0, .int .i64 0] 33) (.cells #[.int .i64 0, .int .i64 0] 23)
    exact ⟨0, Nat.zero_le _, rfl, .of_below (below_new3 _ _ _ _), by rw [n3]; omega, n0, n1, n2, hp_new (hp_new (hp_new HC.out))⟩
  case round =>
    obtain ⟨k, hk, rfl, hb, hz, h0, h1, h2, h3⟩ := hrel
    have H0 := Lib.hid h0
    have H1 := Lib.hid h1
    have H2 := Lib.hid h2
    have H3 := Lib.hid h3
    clear h0 h1 h2 h3
    obtain ⟨⟨br, bn, bm⟩, hbest⟩ : ∃ x, x = bestT (l.take k) := ⟨_, rfl⟩
    rw [← hbest] at H1 H2
    have HB := Lib.hid hbest
    clear hbest
    by_cases hlt : k < l.length
    · obtain ⟨⟨xr, xn, xm⟩, hx⟩ : ∃ x, x = l[k] := ⟨_, rfl⟩
      obtain ⟨cx1, cx2, cx3⟩ := HA.out k hlt
      rw [← hb.cell (by exact hbl) (by exact hbc), ← hx] at cx1 cx2 cx3
      have HX := Lib.hid hx
      have HT := Lib.hid (take_snoc l k hlt)
      clear hx
      obtain ⟨c10, c11, c12, f10, f11, f12, z1⟩ := blk3 H1.out
      obtain ⟨c20, c21, f20, f21, z2⟩ := blk2 H2.out
      have z0 : w.heap.size < wr.heap.size := by omega
      have zc : c < wr.heap.size := by omega
      have q : (0 : Int) ≤ k ∧ (k : Int) < 9223372036854775807 := by omega
      have hne0 : ¬ w.heap.size = c := by omega
      have hne1 : ¬ w.heap.size + 1 = c := by omega
      have hne2 : ¬ w.heap.size + 1 + 1 = c := by omega
      have hne3 : ¬ wr.heap.size = c := by omega
      go_wp2_with fail
      refine (ask_any _ _ _ _ c _ (hp_new H3.out) q).mono ?_; rintro e w1 ⟨rfl, hb1, h31⟩
      have H31 := Lib.hid h31
      clear h31
      obtain ⟨hc1, hf1⟩ := kcell hb1
      have hz1 : w.heap.size < w1.heap.size ∧ w.heap.size + 1 < w1.heap.size ∧ w.heap.size + 1 + 1 < w1.heap.size ∧ wr.heap.size < w1.heap.size := by have := hb1.size; simp at this; omega
      have HBW : Hid (Keep (· = c) w w1) := (hb.alloc _).trans hb1
      have K0 := Lib.hid (hb1.hp (hp_new H0.out) hne0)
      have K1 := Lib.hid (hb1.hp (hp_new H1.out) hne1)
      have K2 := Lib.hid (hb1.hp (hp_new H2.out) hne2)
      by_cases hk0 : k = 0
      · have hk0' : ((k : Int) == 0) = true := by simp [hk0]
        have e : Hid (bestT (l.take (k + 1)) = (xr, xn, xm)) := by simp only [Hid]; rw [HT.out, bestT_snoc, if_pos (by rw [hk0]; rfl), ← HX.out]
        clear hk0 hb1
        have HS := Lib.hid (stepT (B := w.heap.size) (u := .int .i64 xr) (v := .int .i64 xn) (t := .int .i64 xm) (u' := .int .i64 xr) (v' := .int .i64 xn) hcl H31.out K0.out K1.out K2.out)
        go_wp2_with fail
        go_region
        go_wp2
        go_roundw
        case rel =>
          obtain ⟨s0, s1, s2, s3, s4⟩ := HS.out
          have hB := (put2_keep (put3_keep HBW.out (b := w.heap.size + 1) (.inl (by omega)) (.int .i64 xr) (.int .i64 xn) (.int .i64 xm)) (b := w.heap.size + 1 + 1) (.inl (by omega)) (.int .i64 xr) (.int .i64 xn)).drew
          refine ⟨k + 1, by omega, by go_num, hB.alloc (.cells #[.int .i64 xr, .int .i64 xn] 23), ?_, hp_new s0, by rw [e.out]; exact hp_new s1, by rw [e.out]; exact hp_new s2, hp_new s4⟩
          have := size_new (put2 (put3 w1 (w.heap.size + 1) (.int .i64 xr) (.int .i64 xn) (.int .i64 xm)) (w.heap.size + 1 + 1) (.int .i64 xr) (.int .i64 xn)) (.cells #[.int .i64 xr, .int .i64 xn] 23)
          rw [put2_size, put3_size] at this
          exact Nat.lt_of_lt_of_eq (by omega) this.symm
        case measure => simp [intOf]; omega
      · have hk0' : ((k : Int) == 0) = false := by simpa using hk0
        have hne : Hid (l.take k ≠ []) := by
          intro e
          have := congrArg List.length e
          rw [List.length_take, List.length_nil] at this
          omega
        clear hk0
        cases hL : lessB br bn xr xn
        all_goals
          go_wp2_with fail
          refine (less_any _ _ _ _ _).mono ?_; rintro e w2 ⟨rfl, hb2⟩
          obtain ⟨hc2, hf2⟩ := bcell hb2
          have hz2 : w.heap.size < w2.heap.size ∧ w.heap.size + 1 < w2.heap.size ∧ w.heap.size + 1 + 1 < w2.heap.size ∧ wr.heap.size < w2.heap.size ∧ w1.heap.size < w2.heap.size := by have := hb2.size; simp at this; omega
          have HBW2 : Hid (Keep (· = c) w w2) := (HBW.out.alloc _).trans (.of_below hb2)
          have L0 := Lib.hid (hp_step (hp_new K0.out) hb2)
          have L1 := Lib.hid (hp_step (hp_new K1.out) hb2)
          have L2 := Lib.hid (hp_step (hp_new K2.out) hb2)
          have L3 := Lib.hid (hp_step (hp_new H31.out) hb2)
        · have e : Hid (bestT (l.take (k + 1)) = (br, bn, bm)) := by simp only [Hid]; rw [HT.out, bestT_snoc, if_neg hne.out, ← HX.out, ← HB.out, upperT, hL]; rfl
          clear hb1 hb2
          go_wp2_with fail
          go_roundw
          case rel => exact ⟨k + 1, by omega, by go_num, HBW2.out, by omega, L0.out, by rw [e.out]; exact L1.out, by rw [e.out]; exact L2.out, L3.out⟩
          case measure => simp [intOf]; omega
        · have e : Hid (bestT (l.take (k + 1)) = (xr, xn, xm)) := by simp only [Hid]; rw [HT.out, bestT_snoc, if_neg hne.out, ← HX.out, ← HB.out, upperT, hL]; rfl
          have HS := Lib.hid (stepT (B := w.heap.size) (u := .int .i64 xr) (v := .int .i64 xn) (t := .int .i64 xm) (u' := .int .i64 xr) (v' := .int .i64 xn) hcl L3.out L0.out L1.out L2.out)
          clear hb1 hb2
          go_wp2_with fail
          go_region
          go_wp2
          go_roundw
          case rel =>
            obtain ⟨s0, s1, s2, s3, s4⟩ := HS.out
            have hB := (put2_keep (put3_keep HBW2.out (b := w.heap.size + 1) (.inl (by omega)) (.int .i64 xr) (.int .i64 xn) (.int .i64 xm)) (b := w.heap.size + 1 + 1) (.inl (by omega)) (.int .i64 xr) (.int .i64 xn)).drew
            exact ⟨k + 1, by omega, by go_num, hB, s3, s0, by rw [e.out]; exact s1, by rw [e.out]; exact s2, s4⟩
          case measure => simp [intOf]; omega
    · have e : Hid ((br, bn, bm) = bestT l) := by simp only [Hid]; rw [HB.out, List.take_of_length_le (by omega)]
      obtain ⟨c00, c01, c02, f00, f01, f02, z0⟩ := blk3 H0.out
      obtain ⟨c10, c11, c12, f10, f11, f12, z1⟩ := blk3 H1.out
      obtain rfl : k = l.length := by omega
      have hne0 : c ≠ w.heap.size := by omega
      go_wp2_with fail
      rw [← e.out]
      refine bodyPost_ret (v := .tuple #[.agg #[.int .i64 br, .int .i64 bn, .int .i64 bm], .bool (decide (0 < l.length))]) (by simp [results, Try.results12, go_sem, c00, c01, c02]) rfl ⟨rfl, put3_keep hb (.inl (Nat.le_refl _)) _ _ _, ?_⟩
      exact (put3_ne hne0).trans H3.out
end Go.Proofs.Ytjhegigcjchegaa.bal
