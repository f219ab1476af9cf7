/-
  Contracts of ballot.Best at ballots, Most, and the reference's Most, Less, May, Next.
-/
import Derived.Test.YtcaakiaenfkeaaaGreatN14
import Derived.Deep.RegionHeld3
namespace Go.Proofs.YtcaakiaenfkeaaaGreat.bal
open Go.ChangeShapes Go.WideShapes Go.ChangeAt Go.RowKit
open Go.Proofs.YtcaakiaenfkeaaaGreat.kit
set_option linter.unusedVariables false
set_option linter.unusedSimpArgs false
set_option maxHeartbeats 2000000

theorem id_any (r n : Int) (w : World) :
    Calls Tryz.prog 38 #[.agg #[.int .i64 r, .int .i64 n]] w
      fun e w' => e = .returned (.agg #[.int .i64 r, .int .i64 n]) ∧ Below w.heap.size w w' := by
  go_enter Tryz.func38, Tryz.ntmps38
  go_wp2
  exact bodyPost_ret (v := .agg #[.int .i64 r, .int .i64 n]) (by simp [results, Tryz.results38, go_sem]) rfl ⟨rfl, (((Below.refl _ _).alloc (Nat.le_refl _) _).alloc (by simp) _)⟩

theorem best_step {B : Nat} {w1 : World} {T : TypeId} {v0 v1 x0 x1 y0 y1 u v u' v' : Value} (o : Obj)
    (h0 : w1.heap[B]? = some (.cells #[v0, v1] T (0, 0))) (h1 : w1.heap[B + 1]? = some (.cells #[x0, x1] T (0, 0))) (h2 : w1.heap[B + 1 + 1]? = some (.cells #[y0, y1] T (0, 0))) :
    let W := ((put2 (put2 w1 (B + 1) u v) (B + 1 + 1) u' v').alloc o).drew
    W.heap[B]? = some (.cells #[v0, v1] T (0, 0)) ∧ W.heap[B + 1]? = some (.cells #[u, v] T (0, 0)) ∧ W.heap[B + 1 + 1]? = some (.cells #[u', v'] T (0, 0)) ∧ B + 1 + 1 < W.heap.size := by
  have e1 : (put2 (put2 w1 (B + 1) u v) (B + 1 + 1) u' v').heap[B + 1 + 1]? = some (.cells #[u', v'] T (0, 0)) := put2_at (by rw [put2_ne (by omega)]; exact h2)
  refine ⟨hp_new ?_, hp_new ?_, hp_new e1, ?_⟩
  · rw [put2_ne (by omega), put2_ne (by omega)]; exact h0
  · rw [put2_ne (by omega)]; exact put2_at h1
  · have := (Array.getElem?_eq_some_iff.1 e1).1
    show _ < ((put2 (put2 w1 (B + 1) u v) (B + 1 + 1) u' v').alloc o).heap.size
    rw [size_new]
    omega

theorem best_step' {B : Nat} {w1 : World} {T : TypeId} {v0 v1 x0 x1 y0 y1 u v u' v' : Value}
    (h0 : w1.heap[B]? = some (.cells #[v0, v1] T (0, 0))) (h1 : w1.heap[B + 1]? = some (.cells #[x0, x1] T (0, 0))) (h2 : w1.heap[B + 1 + 1]? = some (.cells #[y0, y1] T (0, 0))) :
    let W := (put2 (put2 w1 (B + 1) u v) (B + 1 + 1) u' v').drew
    W.heap[B]? = some (.cells #[v0, v1] T (0, 0)) ∧ W.heap[B + 1]? = some (.cells #[u, v] T (0, 0)) ∧ W.heap[B + 1 + 1]? = some (.cells #[u', v'] T (0, 0)) ∧ B + 1 + 1 < W.heap.size := by
  have e1 : (put2 (put2 w1 (B + 1) u v) (B + 1 + 1) u' v').heap[B + 1 + 1]? = some (.cells #[u', v'] T (0, 0)) := put2_at (by rw [put2_ne (by omega)]; exact h2)
  refine ⟨?_, ?_, e1, ?_⟩
  · show (put2 (put2 w1 (B + 1) u v) (B + 1 + 1) u' v').heap[B]? = _
    rw [put2_ne (by omega), put2_ne (by omega)]; exact h0
  · show (put2 (put2 w1 (B + 1) u v) (B + 1 + 1) u' v').heap[B + 1]? = _
    rw [put2_ne (by omega)]; exact put2_at h1
  · exact (Array.getElem?_eq_some_iff.1 e1).1

theorem best_bal (l : List (Int × Int)) (b off cap : Nat) (w : World) (hl : l.length ≤ 9223372036854775807) (hbl : b < w.heap.size)
    (hat : ∀ i, i < l.length → w.cell? ⟨b, off + 2 * i, none⟩ = some (.int .i64 ((l[i]?.getD (0, 0)).1)) ∧ w.cell? ⟨b, off + 2 * i + 1, none⟩ = some (.int .i64 ((l[i]?.getD (0, 0)).2))) :
    Calls Tryz.prog 37 #[.slice (some ⟨b, off, none⟩) l.length cap, .func (.func 38) #[] #[]] w
      fun e w' => e = .returned (.tuple #[.agg #[.int .i64 (bestB l).1, .int .i64 (bestB l).2], .bool (decide (0 < l.length))]) ∧ Below w.heap.size w w' := by
  have HA := Lib.hid hat
  clear hat
  go_enter Tryz.func37, Tryz.ntmps37
  go_wp2_with fail
  go_loopw [13] (fun i wr => ∃ k : Nat, k ≤ l.length ∧ i = .int .i64 k ∧ Below w.heap.size w wr ∧ w.heap.size + 1 + 1 < wr.heap.size ∧ wr.heap[w.heap.size]? = some (.cells #[.int .i64 0, .int .i64 0] 28 (0, 0)) ∧
      wr.heap[w.heap.size + 1]? = some (.cells #[.int .i64 (bestB (l.take k)).1, .int .i64 (bestB (l.take k)).2] 28 (0, 0)) ∧ wr.heap[w.heap.size + 1 + 1]? = some (.cells #[.int .i64 (bestB (l.take k)).1, .int .i64 (bestB (l.take k)).2] 28 (0, 0)))
    (fun i _ => l.length - (intOf i).toNat)
  case atStart =>
    obtain ⟨n0, n1, n2, n3⟩ := new3 w (.cells #[.int .i64 0, .int .i64 0] 28) (.cells #[.int .i64 0, .int .i64 0] 28) (.cells #[.int .i64 0, .int .i64 0] 28)
    exact ⟨0, Nat.zero_le _, rfl, below_new3 _ _ _ _, by rw [n3]; omega, n0, n1, n2⟩
  case round =>
    obtain ⟨k, hk, rfl, hb, hz, h0, h1, h2⟩ := hrel
    have H0 := Lib.hid h0
    have H1 := Lib.hid h1
    have H2 := Lib.hid h2
    clear h0 h1 h2
    obtain ⟨⟨br, bn⟩, hbest⟩ : ∃ x, x = bestB (l.take k) := ⟨_, rfl⟩
    rw [← hbest] at H1 H2
    have HB := Lib.hid hbest
    clear hbest
    by_cases hlt : k < l.length
    · obtain ⟨⟨xr, xn⟩, hx⟩ : ∃ x, x = l[k] := ⟨_, rfl⟩
      obtain ⟨cx1, cx2⟩ := HA.out k hlt
      rw [← hb.cell (by exact hbl), List.getElem?_eq_getElem hlt, ← hx, Nat.mul_comm 2 k] at cx1
      rw [← hb.cell (by exact hbl), List.getElem?_eq_getElem hlt, ← hx, Nat.mul_comm 2 k] at cx2
      simp only [Option.getD_some] at cx1 cx2
      have HX := Lib.hid hx
      have HT := Lib.hid (take_snoc l k hlt)
      clear hx
      obtain ⟨c10, c11, f10, f11, z1⟩ := blk2 H1.out
      obtain ⟨c20, c21, f20, f21, z2⟩ := blk2 H2.out
      have z0 : w.heap.size < wr.heap.size := by omega
      by_cases hk0 : k = 0
      · have hk0' : ((k : Int) == 0) = true := by simp [hk0]
        have HK := Lib.hid hk0
        clear hk0
        go_wp2_with fail
        refine (id_any _ _ _).mono ?_; rintro e w1 ⟨rfl, hb1⟩
        obtain ⟨hc1, hf1⟩ := bcell hb1
        have hz1 : w.heap.size < w1.heap.size ∧ w.heap.size + 1 < w1.heap.size ∧ w.heap.size + 1 + 1 < w1.heap.size ∧ wr.heap.size < w1.heap.size := by have := hb1.size; simp at this; omega
        have HS := Lib.hid (best_step (B := w.heap.size) (w1 := w1) (T := 28) (u := .int .i64 xr) (v := .int .i64 xn) (u' := .int .i64 xr) (v' := .int .i64 xn) (.cells #[.int .i64 xr, .int .i64 xn] 28)
          ((hb1.block _ (by rw [size_new]; omega)).trans (hp_new H0.out)) ((hb1.block _ (by rw [size_new]; omega)).trans (hp_new H1.out)) ((hb1.block _ (by rw [size_new]; omega)).trans (hp_new H2.out)))
        have HBW : Hid (Below w.heap.size w w1) := (hb.alloc (by omega) _).trans (hb1.mono (by rw [size_new]; omega))
        go_wp2_with fail
        go_region
        go_wp2
        go_roundw
        case rel =>
          obtain ⟨s0, s1, s2, s3⟩ := HS.out
          have e : bestB (l.take (k + 1)) = (xr, xn) := by rw [HT.out, bestB_snoc, if_pos (by rw [HK.out]; rfl), ← HX.out]
          exact ⟨k + 1, by omega, by go_num, ((put2_below (put2_below HBW.out (by omega) _ _) (by omega) _ _).alloc (by rw [put2_size, put2_size]; omega) _).drew, s3, s0, by rw [e]; exact s1, by rw [e]; exact s2⟩
        case measure => simp [intOf]; omega
      · have hk0' : ((k : Int) == 0) = false := by simpa using hk0
        have hne : Hid (l.take k ≠ []) := by
          intro e
          have := congrArg List.length e
          rw [List.length_take, List.length_nil] at this
          omega
        clear hk0
        cases hL : lessB br bn xr xn
        all_goals
          go_wp2_with fail
          refine (id_any _ _ _).mono ?_; rintro e w1 ⟨rfl, hb1⟩
          obtain ⟨hc1, hf1⟩ := bcell hb1
          have hz1 : w.heap.size < w1.heap.size ∧ w.heap.size + 1 < w1.heap.size ∧ w.heap.size + 1 + 1 < w1.heap.size ∧ wr.heap.size < w1.heap.size := by have := hb1.size; simp at this; omega
          have HBW : Hid (Below w.heap.size w w1) := (hb.alloc (by omega) _).trans (hb1.mono (by rw [size_new]; omega))
          have K0 := Lib.hid ((hb1.block _ (by rw [size_new]; omega)).trans (hp_new H0.out))
          have K1 := Lib.hid ((hb1.block _ (by rw [size_new]; omega)).trans (hp_new H1.out))
          have K2 := Lib.hid ((hb1.block _ (by rw [size_new]; omega)).trans (hp_new H2.out))
          go_wp2_with fail
          refine (less_any _ _ _ _ _).mono ?_; rintro e w2 ⟨rfl, hb2⟩
          obtain ⟨hc2, hf2⟩ := bcell hb2
          have hz2 : w.heap.size < w2.heap.size ∧ w.heap.size + 1 < w2.heap.size ∧ w.heap.size + 1 + 1 < w2.heap.size ∧ wr.heap.size < w2.heap.size ∧ w1.heap.size < w2.heap.size := by have := hb2.size; simp at this; omega
          have HBW2 : Hid (Below w.heap.size w w2) := (HBW.out.alloc (by omega) _).trans (hb2.mono (by rw [size_new]; omega))
          have L0 := Lib.hid ((hb2.block _ (by rw [size_new]; omega)).trans (hp_new K0.out))
          have L1 := Lib.hid ((hb2.block _ (by rw [size_new]; omega)).trans (hp_new K1.out))
          have L2 := Lib.hid ((hb2.block _ (by rw [size_new]; omega)).trans (hp_new K2.out))
        · have e : Hid (bestB (l.take (k + 1)) = (br, bn)) := by simp only [Hid]; rw [HT.out, bestB_snoc, if_neg hne.out, ← HX.out, ← HB.out, upper, hL]; rfl
          clear hb1 hb2
          go_wp2_with fail
          go_roundw
          case rel => exact ⟨k + 1, by omega, by go_num, HBW2.out, by omega, L0.out, by rw [e.out]; exact L1.out, by rw [e.out]; exact L2.out⟩
          case measure => simp [intOf]; omega
        · have e : Hid (bestB (l.take (k + 1)) = (xr, xn)) := by simp only [Hid]; rw [HT.out, bestB_snoc, if_neg hne.out, ← HX.out, ← HB.out, upper, hL]; rfl
          have HS := Lib.hid (best_step' (B := w.heap.size) (w1 := w2) (T := 28) (u := .int .i64 xr) (v := .int .i64 xn) (u' := .int .i64 xr) (v' := .int .i64 xn) L0.out L1.out L2.out)
          clear hb1 hb2
          go_wp2_with fail
          go_region
          go_wp2
          go_roundw
          case rel =>
            obtain ⟨s0, s1, s2, s3⟩ := HS.out
            exact ⟨k + 1, by omega, by go_num, (put2_below (put2_below HBW2.out (by omega) _ _) (by omega) _ _).drew, s3, s0, by rw [e.out]; exact s1, by rw [e.out]; exact s2⟩
          case measure => simp [intOf]; omega
    · have e : Hid ((br, bn) = bestB l) := by simp only [Hid]; rw [HB.out, List.take_of_length_le (by omega)]
      obtain ⟨c00, c01, f00, f01, z0⟩ := blk2 H0.out
      obtain ⟨c10, c11, f10, f11, z1⟩ := blk2 H1.out
      go_wp2_with fail
      rw [← e.out]
      refine bodyPost_ret (v := .tuple #[.agg #[.int .i64 br, .int .i64 bn], .bool (decide (0 < l.length))]) (by simp [results, Tryz.results37, go_sem, c00, c01]) rfl ⟨rfl, put2_below hb (Nat.le_refl _) _ _⟩

theorem best_nil (a : Option Addr) (cap : Nat) (w : World) :
    Calls Tryz.prog 37 #[.slice a 0 cap, .func (.func 38) #[] #[]] w
      fun e w' => e = .returned (.tuple #[.agg #[.int .i64 0, .int .i64 0], .bool false]) ∧ Below w.heap.size w w' := by
  go_enter Tryz.func37, Tryz.ntmps37
  go_wp2_with fail
  refine wp_loop_rounds 1 ?_
  rw [rounds_succ]
  go_wp2_with fail
  refine bodyPost_ret (v := .tuple #[.agg #[.int .i64 0, .int .i64 0], .bool false]) (by simp [results, Tryz.results37, go_sem]) rfl ⟨rfl, below_new3 _ _ _ _⟩

/-- Ballots lie at an address. -/
def BalLie (w : World) (a : Option Addr) (l : List (Int × Int)) : Prop :=
  l = [] ∨ ∃ b off, a = some ⟨b, off, none⟩ ∧ b < w.heap.size ∧ ∀ i, i < l.length → w.cell? ⟨b, off + 2 * i, none⟩ = some (.int .i64 ((l[i]?.getD (0, 0)).1)) ∧ w.cell? ⟨b, off + 2 * i + 1, none⟩ = some (.int .i64 ((l[i]?.getD (0, 0)).2))

theorem BalLie.below {w w' : World} {a : Option Addr} {l : List (Int × Int)} (h : BalLie w a l) (hb : Below w.heap.size w w') : BalLie w' a l := by
  rcases h with h | ⟨b, off, h1, h2, h3⟩
  · exact .inl h
  · exact .inr ⟨b, off, h1, Nat.lt_of_lt_of_le h2 hb.size, fun i hi => ⟨(hb.cell (p := ⟨b, _, none⟩) h2).trans (h3 i hi).1, (hb.cell (p := ⟨b, _, none⟩) h2).trans (h3 i hi).2⟩⟩

theorem best_any (l : List (Int × Int)) (a : Option Addr) (cap : Nat) (w : World) (hl : l.length ≤ 9223372036854775807) (hat : BalLie w a l) :
    Calls Tryz.prog 37 #[.slice a l.length cap, .func (.func 38) #[] #[]] w
      fun e w' => e = .returned (.tuple #[.agg #[.int .i64 (bestB l).1, .int .i64 (bestB l).2], .bool (decide (0 < l.length))]) ∧ Below w.heap.size w w' := by
  rcases hat with rfl | ⟨b, off, rfl, hb, hc⟩
  · exact best_nil a cap w
  · exact best_bal l b off cap w hl hb hc

theorem most_any (l : List (Int × Int)) (a : Option Addr) (cap : Nat) (w : World) (hl : l.length ≤ 9223372036854775807) (hat : BalLie w a l) :
    Calls Tryz.prog 18 #[.slice a l.length cap] w
      fun e w' => e = .returned (.agg #[.int .i64 (bestB l).1, .int .i64 (bestB l).2]) ∧ Below w.heap.size w w' := by
  go_enter Tryz.func18, Tryz.ntmps18
  go_wp2_with fail
  refine (best_any l a cap _ hl (hat.below (below_new1 _ _))).mono ?_; rintro e w1 ⟨rfl, hb1⟩
  obtain ⟨hc1, hf1⟩ := bcell hb1
  have hz1 : w.heap.size < w1.heap.size := by have := hb1.size; rw [size_new] at this; omega
  have hB : Below w.heap.size w w1 := (below_new1 _ _).trans (hb1.mono (by rw [size_new]; omega))
  go_wp2_with fail
  obtain ⟨k0, k1, g0, g1, _⟩ := blk2 ((hb1.block w.heap.size (by rw [size_new]; omega)).trans (hp_alloc_new _ _))
  refine bodyPost_ret (v := .agg #[.int .i64 (bestB l).1, .int .i64 (bestB l).2]) (by simp [results, Tryz.results18, go_sem, k0, k1, hz1]) rfl ⟨rfl, (put2_below hB (Nat.le_refl _) _ _).alloc (by rw [put2_size]; omega) _⟩

theorem refLess_any (r1 n1 r2 n2 : Int) (w : World) :
    Calls Tryz.prog 25 #[.agg #[.int .i64 r1, .int .i64 n1], .agg #[.int .i64 r2, .int .i64 n2]] w
      fun e w' => e = .returned (.bool (lessB r1 n1 r2 n2)) ∧ Below w.heap.size w w' := by
  by_cases h : r1 = r2
  · subst h
    have hL : Hid (lessB r1 n1 r1 n2 = decide (n1 < n2)) := by simp [Hid, lessB]
    go_enter Tryz.func25, Tryz.ntmps25
    go_wp2
    go_ret
    exact ⟨by rw [hL.out]; rfl, below_new2 _ _ _⟩
  · have hL : Hid (lessB r1 n1 r2 n2 = decide (r1 < r2)) := by simp [Hid, lessB, h]
    have hne : (r1 != r2) = true := by simpa using h
    clear h
    go_enter Tryz.func25, Tryz.ntmps25
    go_wp2
    go_ret
    exact ⟨by rw [hL.out]; rfl, below_new2 _ _ _⟩

end Go.Proofs.YtcaakiaenfkeaaaGreat.bal
