/-
  The document's clock (purseref07) in memory: Set.
-/
import Derived.Test.YtejjnhgiijhglaaRClkS
import Derived.Test.YtejjnhgiijhglaaKit2
namespace Go.Proofs.Ytejjnhgiijhglaa.rclkt
open Go.ChangeShapes Go.WideShapes Go.ChangeAt Go.RowKit
open Go.Proofs.Ytejjnhgiijhglaa.kit Go.Proofs.Ytejjnhgiijhglaa.own Go.Proofs.Ytejjnhgiijhglaa.clkp Go.Proofs.Ytejjnhgiijhglaa.clks Go.Proofs.Ytejjnhgiijhglaa.clkr Go.Proofs.Ytejjnhgiijhglaa.rclkp Go.Proofs.Ytejjnhgiijhglaa.rclk Go.Proofs.Ytejjnhgiijhglaa.rclks
set_option linter.unusedVariables false
set_option linter.unusedSimpArgs false
set_option maxHeartbeats 1000000
set_option maxRecDepth 100000

theorem rset_arg (w : World) (b : Nat) (n : ByteArray) (i : Int) (hn : n.size ≤ maxLen) (hE : n.size < 1 ∨ 16 < n.size ∨ i < 1 ∨ 2147483647 < i) :
    Calls Try.prog 25 #[.pointer (some ⟨b, 0, none⟩), .string n, .int .i64 i] w fun e w' => e = .returned (.int .i64 1) ∧ w = w' := by
  unfold maxLen at hn
  obtain ⟨m, hm⟩ : ∃ m, m = n.size := ⟨_, rfl⟩
  by_cases h1 : n.size < 1
  · have d1 : decide ((n.size : Int) < 1) = true := decide_eq_true (by omega)
    have d2 : (n.size : Int) < 1 := by omega
    clear hE
    go_enter Try.func25, Try.ntmps25
    go_wp2_with fail
    go_ret
    exact ⟨rfl, rfl⟩
  have d1 : decide ((n.size : Int) < 1) = false := decide_eq_false (by omega)
  have d1' : ¬ (n.size : Int) < 1 := by omega
  by_cases h2 : 16 < n.size
  · have d2 : decide ((16 : Int) < (n.size : Int)) = true := decide_eq_true (by omega)
    have d2' : (16 : Int) < (n.size : Int) := by omega
    clear hE
    go_enter Try.func25, Try.ntmps25
    go_wp2_with fail
    go_ret
    exact ⟨rfl, rfl⟩
  have d2 : decide ((16 : Int) < (n.size : Int)) = false := decide_eq_false (by omega)
  have d2' : ¬ (16 : Int) < (n.size : Int) := by omega
  by_cases h3 : i < 1
  · have d3 : decide (i < 1) = true := decide_eq_true h3
    clear hE
    go_enter Try.func25, Try.ntmps25
    go_wp2_with fail
    go_ret
    exact ⟨rfl, rfl⟩
  have d3 : decide (i < 1) = false := decide_eq_false h3
  have h4 : 2147483647 < i := by omega
  have d4 : decide (2147483647 < i) = true := decide_eq_true h4
  clear hE
  go_enter Try.func25, Try.ntmps25
  go_wp2_with fail
  go_ret
  exact ⟨rfl, rfl⟩


theorem lie_new2 (w : World) (a b : Value) (T : TypeId) : Lie (w.alloc (.cells #[a, b] T)) (some ⟨w.heap.size, 0, none⟩) [a, b] := by
  refine .inr ⟨_, 0, rfl, by rw [size_new]; omega, fun i hi => ?_⟩
  have hb := kit.blk (hp_alloc_new w (.cells #[a, b] T))
  rw [Nat.zero_add, hb.1]
  match i, hi with
  | 0, _ => rfl
  | 1, _ => rfl
theorem rgrow {w2 : World} {base b : Nat} {now : Int} {Q : List T3} {a : Option Addr} {c : Nat} (t : T3) (h1 : base ≤ b) (h2 : w2.heap[b]? = some (.cells #[.int .i64 now, .slice a Q.length c] 38 (0, 0)))
    (h3 : w2.ownsRow base 64 2 (.slice a Q.length c) Q.length (rcells Q)) {o : Obj} : ∀ (v5 : Value) (w5 : World), w5.ownsRow base 64 2 v5 (Q.length + 1) (rcells Q ++ [.string t.nm, .int .i64 t.due]) → (w2.drew.alloc o).grownBy w5 (Value.slice a Q.length c).ownBlock →
      ∃ a5 c5, v5 = .slice a5 (Q.length + 1) c5 ∧ (∃ v, w5.cell? ⟨b, 1, none⟩ = some v) ∧ w5.frozen? ⟨b, 1, none⟩ = false ∧ b < w5.heap.size ∧ RefAt (w5.setCell ⟨b, 1, none⟩ v5) base b now (Q ++ [t]) ∧ Keep (CR w2 base) w2 (w5.setCell ⟨b, 1, none⟩ v5) := by
  intro v5 w5 ho hg
  obtain ⟨a5, c5, rfl⟩ := own_shape ho
  have hz := (kit.blk h2).2.2
  have hk5 : Keep (CR w2 base) w2 w5 := by
    refine ⟨hg.os, hg.tape, hg.output, by have := hg.size; rw [size_new] at this; exact Nat.le_trans (Nat.le_succ _) this, fun k hk hn => ?_⟩
    refine (hg.block k (by rw [size_new]; exact Nat.lt_succ_of_lt hk) (fun e => hn ?_)).trans (hp_alloc_old (w := w2.drew) hk)
    have h4 := own_block h3 k e.symm
    obtain ⟨cur, hcur⟩ := own_heap h3 k h4
    exact ⟨(own_from h3 k h4).1, cur, _, _, hcur, .inr rfl⟩
  have hb5 : w5.heap[b]? = w2.heap[b]? := by
    refine (hg.block b (by rw [size_new]; exact Nat.lt_succ_of_lt hz) (fun e => ?_)).trans (hp_alloc_old (w := w2.drew) hz)
    exact own_ne h3 h2 (by decide) b (own_block h3 b e.symm) rfl
  have hl : (Q ++ [t]).length = Q.length + 1 := by simp
  rw [show rcells Q ++ [.string t.nm, .int .i64 t.due] = rcells (Q ++ [t]) by rw [rcells_append]; rfl, ← hl] at ho
  have := ref_put (now := now) h1 h2 ho hb5 hk5
  rw [hl] at this
  exact ⟨a5, c5, rfl, this⟩

theorem rset_yes (w : World) (base b : Nat) (A : CkS) (P : List T3) (n : ByteArray) (i : Int) (h : RefAt w base b A.now P) (hbw : base ≤ w.heap.size) (hR : Rel A P) (ho : Ok A) (hE : setE A n i = 0) :
    Calls Try.prog 25 #[.pointer (some ⟨b, 0, none⟩), .string n, .int .i64 i] w fun e w' => e = .returned (.int .i64 0) ∧ RefAt w' base b A.now (rm P n ++ [⟨n, A.now + i, A.turns + 1⟩]) ∧ Keep (CR w base) w w' := by
  obtain ⟨j0, hj, hy0, hy1, hy2⟩ := info_parts infoTmr
  obtain ⟨h1, h2, h3⟩ := set0 hE
  have hl : P.length ≤ 64 := by rw [rel_len hR]; exact ho.len
  have hnod := rel_nod hR ho
  have hnow := ho.num
  have HST := Lib.hid (fun m => rstop_ok (w.drewN m) base b A.now P n (h.below (below_drewN (Below.refl _ w) m)) hbw hl hnod)
  have hpl : ∃ (r : Int), Calls Try.prog 29 #[.pointer (some ⟨b, 0, none⟩), .string n] w (fun e w' => e = .returned (.int .i64 r) ∧ ∃ m, w' = w.drewN m) ∧ (¬ r < 0 ∨ r < 0 ∧ decide ((64 : Int) ≤ (P.length : Int)) = false) := by
    cases hh : has P n with
    | true =>
      obtain ⟨k, hk, e, hb, -⟩ := idx hh hnod
      exact ⟨k, place_at w base b A.now P n h hl k hk e hb, .inl (by omega)⟩
    | false =>
      refine ⟨-1, place_no w base b A.now P n h hl (no_idx hh), .inr ⟨by omega, decide_eq_false ?_⟩⟩
      rw [rel_has hR] at hh
      rcases h3 with h3 | h3
      · rw [h3] at hh; cases hh
      · have := rel_len hR; omega
  obtain ⟨r, hP, hcase⟩ := hpl
  have HP := Lib.hid hP
  have hQl : (rm P n).length < 64 := by
    rcases h3 with h3 | h3
    · rw [← rel_has hR] at h3
      have := rm_length h3; omega
    · have h4 : (rm P n).length ≤ P.length := List.length_filter_le _ _
      have := rel_len hR; omega
  have c1 : ∃ a c, ∀ m, (w.drewN m).cell? ⟨b, 1, none⟩ = some (.slice a P.length c) := by
    obtain ⟨-, a, c, h4, -⟩ := h
    exact ⟨a, c, fun m => (kit.blk h4).1 1⟩
  obtain ⟨a0, c0, c1⟩ := c1
  have hz0 : b < w.heap.size := by obtain ⟨-, a, c, h4, -⟩ := h; exact (kit.blk h4).2.2
  obtain ⟨pl, hpl⟩ : ∃ x, x = P.length := ⟨_, rfl⟩
  rw [← hpl] at hcase c1 hl
  have d1 : decide ((n.size : Int) < 1) = false := decide_eq_false (by omega)
  have d1' : ¬ (n.size : Int) < 1 := by omega
  have d2 : decide ((16 : Int) < (n.size : Int)) = false := decide_eq_false (by omega)
  have d2' : ¬ (16 : Int) < (n.size : Int) := by omega
  have d3 : decide (i < 1) = false := decide_eq_false (by omega)
  have d4 : decide (2147483647 < i) = false := decide_eq_false (by omega)
  have hwr : IntKind.i64.wrap (A.now + i) = A.now + i := IntWalk.i64_in _ (by omega)
  obtain ⟨Q, hQ⟩ : ∃ Q, Q = rm P n := ⟨_, rfl⟩
  rw [← hQ] at HST hQl ⊢
  obtain ⟨bv, hbv⟩ : ∃ x, x = has P n := ⟨_, rfl⟩
  rw [← hbv] at HST
  obtain ⟨nw, hnw⟩ : ∃ x, x = A.now := ⟨_, rfl⟩
  rw [← hnw] at HST hwr ⊢
  clear hP h hR ho hE hpl h3 hnod hQ hbv hnw hnow
  rcases hcase with d5 | ⟨d5, d6⟩
  all_goals
    have d5' := decide_eq_true_iff.2 d5
    go_enter Try.func25, Try.ntmps25
    go_wp2_with fail
    refine HP.out.mono ?_; rintro e w' ⟨rfl, m, rfl⟩
    have c1m := c1 m
    have hzm : b < (w.drewN m).heap.size := hz0
    go_wp2_with fail
    refine (HST.out m).mono ?_; rintro e w2 ⟨rfl, hr2, hk2⟩
    obtain ⟨g1, a, c, g2, g3⟩ := hr2
    obtain ⟨q1, q2, hzb⟩ := kit.blk g2
    have x0 : w2.cell? ⟨b, 0, none⟩ = some (.int .i64 nw) := q1 0
    have x1 : w2.cell? ⟨b, 1, none⟩ = some (.slice a Q.length c) := q1 1
    have hzw2 : base ≤ w2.heap.size := Nat.le_trans hbw hk2.size
    have HG := Lib.hid (fun (o : Obj) => rgrow (now := nw) ⟨n, nw + i, A.turns + 1⟩ g1 g2 g3 (o := o))
    have HO := Lib.hid (own_below g3 (below_drewN (Below.refl _ w2) 1))
    have HK2 : Hid (Keep (CR w base) w w2) := ⟨hk2.os, hk2.tape, hk2.output, hk2.size, hk2.block⟩
    have e1 : ∀ o : Obj, (w2.alloc o).cell? ⟨b, 1, none⟩ = some (.slice a Q.length c) := fun o => cell_step x1 (below_new1 _ o)
    have e0 : ∀ o : Obj, (w2.alloc o).cell? ⟨b, 0, none⟩ = some (.int .i64 nw) := fun o => cell_step x0 (below_new1 _ o)
    have e1d : ∀ o : Obj, (w2.drew.alloc o).cell? ⟨b, 1, none⟩ = some (.slice a Q.length c) := fun o => cell_step (W := w2.drew) x1 (below_new1 _ o)
    have e0d : ∀ o : Obj, (w2.drew.alloc o).cell? ⟨b, 0, none⟩ = some (.int .i64 nw) := fun o => cell_step (W := w2.drew) x0 (below_new1 _ o)
    have hzd : base ≤ w2.drew.heap.size := hzw2
    clear q1 q2 g2 g3 hk2 HST HP c1 c1m
    go_wp2_with fail
    go_region_law (refine step_append rfl (.tmp 42) (.tmp 51) 36 rfl base 64 j0 _ 2 24 Try.underlying36 hj hy0 hy1 hy2 rfl (by decide) (.slice a Q.length c) Q.length (rcells Q) rfl (HO.out.alloc _) (some ⟨w2.heap.size, 0, none⟩) 1 1 [.string n, .int .i64 (nw + i)] rfl (by simp) rfl (lie_new2 w2.drew _ _ _) (by simp [Value.oneCell']) (by unfold maxLen; omega) (by omega) (by show base ≤ (w2.drew.alloc _).heap.size; rw [size_new]; omega) ?_; intro v5 w5 hown hgr; obtain ⟨a5, c5, rfl, ⟨v9, y0⟩, y1, y2, y3, y4⟩ := HG.out _ v5 w5 hown hgr; have HE := Lib.hid (And.intro y3 y4); clear hown hgr y3 y4)
    all_goals
      go_wp2_with fail
      go_ret
      exact ⟨rfl, HE.out.1, cr_trans HK2.out HE.out.2⟩

theorem rset_full (w : World) (base b : Nat) (A : CkS) (P : List T3) (n : ByteArray) (i : Int) (h : RefAt w base b A.now P) (hR : Rel A P) (ho : Ok A) (h1 : 1 ≤ n.size ∧ n.size ≤ 16) (h2 : 1 ≤ i ∧ i ≤ 2147483647) (h3 : has A.s n = false) (h4 : 64 ≤ A.s.length) :
    Calls Try.prog 25 #[.pointer (some ⟨b, 0, none⟩), .string n, .int .i64 i] w fun e w' => e = .returned (.int .i64 3) ∧ ∃ m, w' = w.drewN m := by
  have hl : P.length ≤ 64 := by rw [rel_len hR]; exact ho.len
  have hl2 : 64 ≤ P.length := by rw [rel_len hR]; exact h4
  have HP := Lib.hid (place_no w base b A.now P n h hl (no_idx (by rw [rel_has hR]; exact h3)))
  have c1 : ∃ a c, ∀ m, (w.drewN m).cell? ⟨b, 1, none⟩ = some (.slice a P.length c) := by
    obtain ⟨-, a, c, h4, -⟩ := h
    exact ⟨a, c, fun m => (kit.blk h4).1 1⟩
  obtain ⟨a0, c0, c1⟩ := c1
  have hz0 : b < w.heap.size := by obtain ⟨-, a, c, h4, -⟩ := h; exact (kit.blk h4).2.2
  obtain ⟨pl, hpl⟩ : ∃ x, x = P.length := ⟨_, rfl⟩
  rw [← hpl] at c1 hl hl2
  have d1 : decide ((n.size : Int) < 1) = false := decide_eq_false (by omega)
  have d1' : ¬ (n.size : Int) < 1 := by omega
  have d2 : decide ((16 : Int) < (n.size : Int)) = false := decide_eq_false (by omega)
  have d2' : ¬ (16 : Int) < (n.size : Int) := by omega
  have d3 : decide (i < 1) = false := decide_eq_false (by omega)
  have d4 : decide (2147483647 < i) = false := decide_eq_false (by omega)
  have d6 : decide ((64 : Int) ≤ (pl : Int)) = true := decide_eq_true (by omega)
  clear h hR ho hpl h3 h4
  go_enter Try.func25, Try.ntmps25
  go_wp2_with fail
  refine HP.out.mono ?_; rintro e w' ⟨rfl, m, rfl⟩
  have c1m := c1 m
  have hzm : b < (w.drewN m).heap.size := hz0
  go_wp2_with fail
  go_ret
  exact ⟨rfl, m, rfl⟩

theorem setS_now (A : CkS) (n : ByteArray) (i : Int) : (setS A n i).now = A.now := by rw [setS]; split <;> rfl
theorem rset_ok (w : World) (base b : Nat) (A : CkS) (P : List T3) (n : ByteArray) (i : Int) (h : RefAt w base b A.now P) (hbw : base ≤ w.heap.size) (hR : Rel A P) (ho : Ok A) (hn : n.size ≤ maxLen) :
    Calls Try.prog 25 #[.pointer (some ⟨b, 0, none⟩), .string n, .int .i64 i] w fun e w' => e = .returned (.int .i64 (setE A n i)) ∧ (∃ P', RefAt w' base b (setS A n i).now P' ∧ Rel (setS A n i) P') ∧ Keep (CR w base) w w' := by
  rw [setS_now]
  by_cases hE : setE A n i = 0
  · rw [hE]
    refine (rset_yes w base b A P n i h hbw hR ho hE).mono ?_
    rintro e w' ⟨rfl, hr, hk⟩
    exact ⟨rfl, ⟨_, hr, rel_set hR ho hE⟩, hk⟩
  · have hS : setS A n i = A := by rw [setS, if_neg hE]
    rw [hS]
    by_cases h1 : n.size < 1 ∨ 16 < n.size ∨ i < 1 ∨ 2147483647 < i
    · have e : setE A n i = 1 := by rw [setE, if_pos h1]
      rw [e]
      refine (rset_arg w b n i hn h1).mono ?_
      rintro e w' ⟨rfl, rfl⟩
      exact ⟨rfl, ⟨P, h, hR⟩, Keep.refl _ _⟩
    · have h2 : has A.s n = false ∧ 64 ≤ A.s.length := by
        rw [setE, if_neg h1] at hE
        apply Decidable.byContradiction
        intro h3
        rw [if_neg h3] at hE
        exact hE rfl
      have e : setE A n i = 3 := by rw [setE, if_neg h1, if_pos h2]
      rw [e]
      refine (rset_full w base b A P n i h hR ho (by omega) (by omega) h2.1 h2.2).mono ?_
      rintro e w' ⟨rfl, m, rfl⟩
      exact ⟨rfl, ⟨P, h.below (below_drewN (Below.refl _ w) m), hR⟩, cr_drew w base m⟩
end Go.Proofs.Ytejjnhgiijhglaa.rclkt
