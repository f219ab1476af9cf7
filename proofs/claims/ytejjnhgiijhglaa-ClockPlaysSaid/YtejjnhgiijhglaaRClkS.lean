/-
  The document's clock (purseref07) in memory: Due, Stop.
-/
import Derived.Test.YtejjnhgiijhglaaRClk
import Derived.Test.YtejjnhgiijhglaaClkS
namespace Go.Proofs.Ytejjnhgiijhglaa.rclks
open Go.ChangeShapes Go.WideShapes Go.ChangeAt Go.RowKit
open Go.Proofs.Ytejjnhgiijhglaa.kit Go.Proofs.Ytejjnhgiijhglaa.own Go.Proofs.Ytejjnhgiijhglaa.clkp Go.Proofs.Ytejjnhgiijhglaa.clks Go.Proofs.Ytejjnhgiijhglaa.clkr Go.Proofs.Ytejjnhgiijhglaa.rclkp Go.Proofs.Ytejjnhgiijhglaa.rclk
set_option linter.unusedVariables false
set_option linter.unusedSimpArgs false
set_option maxHeartbeats 1000000
set_option maxRecDepth 100000

theorem idx {P : List T3} {n : ByteArray} (h : has P n = true) (hn : P.Pairwise (fun a b => a.nm ≠ b.nm)) :
    ∃ k, ∃ hk : k < P.length, P[k].nm = n ∧ (∀ j (hj : j < P.length), j < k → P[j].nm ≠ n) ∧ rm P n = P.take k ++ P.drop (k + 1) := by
  obtain ⟨t, ht, e⟩ := has_iff.1 h
  obtain ⟨k, hk, rfl⟩ := List.getElem_of_mem ht
  have hp := List.pairwise_iff_getElem.1 hn
  have hlt : ∀ j (hj : j < P.length), j < k → P[j].nm ≠ n := fun j hj hjk => by rw [← e]; exact hp j k hj hk hjk
  have hgt : ∀ j (hj : j < P.length), k < j → P[j].nm ≠ n := fun j hj hjk => by rw [← e]; exact fun e2 => hp k j hk hj hjk e2.symm
  refine ⟨k, hk, e, hlt, ?_⟩
  have eP : P = P.take k ++ P[k] :: P.drop (k + 1) := by rw [← List.drop_eq_getElem_cons hk, List.take_append_drop]
  have e1 : (P.take k).filter (fun t => decide (t.nm ≠ n)) = P.take k := by
    refine List.filter_eq_self.2 (fun x hx => decide_eq_true ?_)
    obtain ⟨j, hj, rfl⟩ := List.getElem_of_mem hx
    rw [List.length_take] at hj
    rw [List.getElem_take]
    exact hlt j (by omega) (by omega)
  have e2 : (P.drop (k + 1)).filter (fun t => decide (t.nm ≠ n)) = P.drop (k + 1) := by
    refine List.filter_eq_self.2 (fun x hx => decide_eq_true ?_)
    obtain ⟨j, hj, rfl⟩ := List.getElem_of_mem hx
    rw [List.length_drop] at hj
    rw [List.getElem_drop]
    exact hgt _ (by omega) (by omega)
  unfold rm
  conv => lhs; rw [eP]
  rw [List.filter_append, List.filter_cons_of_neg (by simp [e]), e1, e2]
theorem no_idx {P : List T3} {n : ByteArray} (h : has P n = false) : ∀ j (hj : j < P.length), P[j].nm ≠ n := by
  intro j hj e
  have := has_iff.2 ⟨P[j], List.getElem_mem hj, e⟩
  rw [h] at this; cases this

theorem rdue_ok (w : World) (base b : Nat) (A : CkS) (P : List T3) (n : ByteArray) (h : RefAt w base b A.now P) (hR : Rel A P) (ho : Ok A) :
    Calls Try.prog 19 #[.pointer (some ⟨b, 0, none⟩), .string n] w fun e w' => e = .returned (.tuple #[.int .i64 ((dueS A n).getD 0), .bool (dueS A n).isSome]) ∧ ∃ m, w' = w.drewN m := by
  have hl : P.length ≤ 64 := by rw [rel_len hR]; exact ho.len
  cases hh : has P n with
  | true =>
    obtain ⟨k, hk, e, hb, -⟩ := idx hh (rel_nod hR ho)
    have HP := Lib.hid (place_at w base b A.now P n h hl k hk e hb)
    have hd : dueS A n = some P[k].due := by rw [← e]; exact dues_find ho (hR.perm.mem_iff.1 (List.getElem_mem hk))
    rw [hd]
    simp only [Option.getD_some, Option.isSome_some]
    obtain ⟨h1, a, c, h2, h3⟩ := h
    obtain ⟨g, rfl⟩ := own_ptr h3 (by omega)
    obtain ⟨b1, b2, hz⟩ := kit.blk h2
    have c1 : ∀ m, (w.drewN m).cell? ⟨b, 1, none⟩ = some (.slice (some ⟨g, 0, none⟩) P.length c) := fun m => b1 1
    have hgz := (own_from h3 g rfl).2
    have x1 : ∀ m, (w.drewN m).cell? ⟨g, k * 2 + 1, none⟩ = some (.int .i64 P[k].due) := fun m => (rc_cell h3 hk).2
    obtain ⟨d, hdd⟩ : ∃ d, d = P[k].due := ⟨_, rfl⟩
    rw [← hdd] at x1 ⊢
    have t1 : ¬ (k : Int) < 0 := by omega
    have hzm : ∀ m, b < (w.drewN m).heap.size := fun m => hz
    have hgm : ∀ m, g < (w.drewN m).heap.size := fun m => hgz
    clear h1 h2 h3 b1 b2 hdd hd hR ho hb e hh
    go_enter Try.func19, Try.ntmps19
    go_wp2_with fail
    refine HP.out.mono ?_; rintro e w' ⟨rfl, m, rfl⟩
    have c1m := c1 m
    have x1m := x1 m
    have hzm1 := hzm m
    have hgm1 := hgm m
    clear c1 x1 hzm hgm HP
    go_wp2_with fail
    exact bodyPost_ret (v := .tuple #[.int .i64 d, .bool true]) (by simp [results, Try.results19, go_sem, Result.andThen]) rfl ⟨rfl, m, rfl⟩
  | false =>
    have HP := Lib.hid (place_no w base b A.now P n h hl (no_idx hh))
    have hd : dueS A n = none := dues_none (by rw [← rel_has hR]; exact hh)
    rw [hd]
    simp only [Option.getD_none, Option.isSome_none]
    clear hd hR ho hh h
    go_enter Try.func19, Try.ntmps19
    go_wp2_with fail
    refine HP.out.mono ?_; rintro e w' ⟨rfl, m, rfl⟩
    go_wp2_with fail
    exact bodyPost_ret (v := .tuple #[.int .i64 0, .bool false]) (by simp [results, Try.results19, go_sem, Result.andThen]) rfl ⟨rfl, m, rfl⟩

theorem row_take {w : World} {base g c : Nat} {P : List T3} (h : w.ownsRow base 64 2 (.slice (some ⟨g, 0, none⟩) P.length c) P.length (rcells P)) {k : Nat} (hk : k < P.length) : Lie w (some ⟨g, 0, none⟩) (rcells (P.take k)) := by
  have hl := rcells_len (P.take k)
  rw [List.length_take, Nat.min_eq_left (by omega)] at hl
  refine .inr ⟨g, 0, rfl, (own_from h g rfl).2, fun i hi => ?_⟩
  rw [Nat.zero_add, World.ownsRow.cellAt h i (by omega), rcells_split hk, List.getElem?_append_left hi]
theorem row_cap {w : World} {base g c n size : Nat} {e : TypeId} {xs : List Value} (h : w.ownsRow base e size (.slice (some ⟨g, 0, none⟩) n c) n xs) : n ≤ c := by
  rcases h.2 with ⟨hz0, _⟩ | ⟨g', cap, cur, e', hgb, hh, hc', hm', _⟩
  · simp at hz0
  · simp only [Value.slice.injEq] at e'
    omega
theorem row_drop {w : World} {base g c : Nat} {P : List T3} (h : w.ownsRow base 64 2 (.slice (some ⟨g, 0, none⟩) P.length c) P.length (rcells P)) {k : Nat} (hk : k < P.length) : ∃ A : Addr, (if c = k + 1 then some (⟨g, 0, none⟩ : Addr) else some ⟨g, (k + 1) * 2, none⟩) = some A ∧ Lie w (some A) (rcells (P.drop (k + 1))) := by
  have hl1 := rcells_len (P.take k)
  rw [List.length_take, Nat.min_eq_left (by omega)] at hl1
  have hl2 := rcells_len (P.drop (k + 1))
  rw [List.length_drop] at hl2
  have hnc := row_cap h
  by_cases hc : c = k + 1
  · refine ⟨⟨g, 0, none⟩, by simp [hc], .inl (List.length_eq_zero_iff.1 (by omega))⟩
  · refine ⟨⟨g, (k + 1) * 2, none⟩, by simp [hc], .inr ⟨g, (k + 1) * 2, rfl, (own_from h g rfl).2, fun i hi => ?_⟩⟩
    have hl3 : (tc P[k]).length = 2 := rfl
    rw [World.ownsRow.cellAt h _ (by omega), rcells_split hk, List.getElem?_append_right (by omega), List.getElem?_append_right (by omega)]
    congr 1
    omega

/-- What a store of a new row leaves. -/
theorem ref_put {w w2 : World} {base b : Nat} {now : Int} {P P' : List T3} {a a' : Option Addr} {c c' : Nat} (h1 : base ≤ b) (h2 : w.heap[b]? = some (.cells #[.int .i64 now, .slice a P.length c] 38 (0, 0)))
    (hown : w2.ownsRow base 64 2 (.slice a' P'.length c') P'.length (rcells P')) (hb2 : w2.heap[b]? = w.heap[b]?) (hk : Keep (CR w base) w w2) :
    (∃ v, w2.cell? ⟨b, 1, none⟩ = some v) ∧ w2.frozen? ⟨b, 1, none⟩ = false ∧ b < w2.heap.size ∧ RefAt (w2.setCell ⟨b, 1, none⟩ (.slice a' P'.length c')) base b now P' ∧ Keep (CR w base) w (w2.setCell ⟨b, 1, none⟩ (.slice a' P'.length c')) := by
  have hb := hb2.trans h2
  obtain ⟨k1, k2, k3⟩ := kit.blk hb
  refine ⟨⟨_, k1 1⟩, k2 1, k3, ⟨h1, a', c', hp_set hb 1 _, own_kept hown (fun g hg => hp_set_ne (own_ne hown hb (by decide) g hg))⟩, hk.setCell (p := ⟨b, 1, none⟩) (.inr ⟨h1, _, _, _, h2, .inl rfl⟩) _⟩
theorem keep_of_below {w w2 : World} (base : Nat) (h : Below w.heap.size w w2) : Keep (CR w base) w w2 := ⟨h.os, h.tape, h.output, h.size, fun k hk _ => h.block k hk⟩

theorem rstop_ok (w : World) (base b : Nat) (now : Int) (P : List T3) (n : ByteArray) (h : RefAt w base b now P) (hbw : base ≤ w.heap.size) (hl : P.length ≤ 64) (hnod : P.Pairwise (fun a b => a.nm ≠ b.nm)) :
    Calls Try.prog 23 #[.pointer (some ⟨b, 0, none⟩), .string n] w fun e w' => e = .returned (.bool (has P n)) ∧ RefAt w' base b now (rm P n) ∧ Keep (CR w base) w w' := by
  cases hh : has P n with
  | false =>
    have HP := Lib.hid (place_no w base b now P n h hl (no_idx hh))
    rw [rm_none hh]
    have H := Lib.hid h
    clear hh h hnod
    go_enter Try.func23, Try.ntmps23
    go_wp2_with fail
    refine HP.out.mono ?_; rintro e w' ⟨rfl, m, rfl⟩
    go_wp2_with fail
    go_ret
    exact ⟨rfl, H.out.below (below_drewN (Below.refl _ w) m), cr_drew w base m⟩
  | true =>
    obtain ⟨j0, hj, hy0, hy1, hy2⟩ := info_parts infoTmr
    obtain ⟨k, hk, e, hb, hrm⟩ := idx hh hnod
    have HP := Lib.hid (place_at w base b now P n h hl k hk e hb)
    rw [hrm]
    obtain ⟨h1, a, c, h2, h3⟩ := h
    obtain ⟨g, rfl⟩ := own_ptr h3 (by omega)
    obtain ⟨b1, b2, hz⟩ := kit.blk h2
    have hlE : (P.take k ++ P.drop (k + 1)).length = k + (P.length - (k + 1)) := by rw [List.length_append, List.length_take, List.length_drop, Nat.min_eq_left (by omega)]
    have HF : Hid (∀ (m : Nat) (w2 : World) (v2 : Value), Below w.heap.size (w.drewN m) w2 → w2.ownsRow w.heap.size 64 2 v2 (k + (P.length - (k + 1))) (rcells (P.take k) ++ rcells (P.drop (k + 1))) →
        ∃ a9 c9, v2 = .slice a9 (k + (P.length - (k + 1))) c9 ∧ (∃ v, w2.cell? ⟨b, 1, none⟩ = some v) ∧ w2.frozen? ⟨b, 1, none⟩ = false ∧ b < w2.heap.size ∧ RefAt (w2.setCell ⟨b, 1, none⟩ v2) base b now (P.take k ++ P.drop (k + 1)) ∧ Keep (CR w base) w (w2.setCell ⟨b, 1, none⟩ v2)) := by
      intro m w2 v2 hb2 hown
      obtain ⟨a9, c9, rfl⟩ := own_shape hown
      have hbb : Below w.heap.size w w2 := Below.trans (below_drewN (Below.refl _ w) m) hb2
      rw [← rcells_append, ← hlE] at hown
      have := ref_put (now := now) (P := P) h1 h2 (own_mono hown hbw) (hbb.block b hz) (keep_of_below base hbb)
      rw [hlE] at this
      exact ⟨a9, c9, rfl, this⟩
    have hL1 := fun m => row_take (w := w.drewN m) (own_below h3 (below_drewN (Below.refl _ w) m)) hk
    have hdrop := fun m => row_drop (w := w.drewN m) (own_below h3 (below_drewN (Below.refl _ w) m)) hk
    have hAe : ∃ A : Addr, (if c = k + 1 then some (⟨g, 0, none⟩ : Addr) else some ⟨g, (k + 1) * 2, none⟩) = some A := by
      by_cases hc : c = k + 1
      · exact ⟨_, by rw [if_pos hc]⟩
      · exact ⟨_, by rw [if_neg hc]⟩
    obtain ⟨A, hA⟩ := hAe
    have hL2 : ∀ m, Lie (w.drewN m) (some A) (rcells (P.drop (k + 1))) := fun m => by
      obtain ⟨A', hA', hl'⟩ := hdrop m
      rw [hA] at hA'
      rw [hA']; exact hl'
    have hnc := row_cap h3
    have HL1 := Lib.hid hL1
    have HL2 := Lib.hid hL2
    have HL1L : Hid ((rcells (P.take k)).length = k * 2) := by rw [Hid, rcells_len, List.length_take, Nat.min_eq_left (by omega)]
    have HL2L : Hid ((rcells (P.drop (k + 1))).length = (P.length - (k + 1)) * 2) := by rw [Hid, rcells_len, List.length_drop]
    have c1 : ∀ m, (w.drewN m).cell? ⟨b, 1, none⟩ = some (.slice (some ⟨g, 0, none⟩) P.length c) := fun m => b1 1
    have hzm : ∀ m, b < (w.drewN m).heap.size := fun m => hz
    have hgz : ∀ m, g < (w.drewN m).heap.size := fun m => (own_from h3 g rfl).2
    have t0 : decide ((k : Int) < 0) = false := decide_eq_false (by omega)
    have t0' : ¬ (k : Int) < 0 := by omega
    have t3 : (k : Int) < P.length := by omega
    have t4 : (0 : Int) ≤ k := by omega
    have hic : k ≤ c := by omega
    have hwr : IntKind.i64.wrap ((k : Int) + 1) = (k : Int) + 1 := by rw [IntKind.wrap_i64]; omega
    have hp0 : (0 : Int) ≤ (k : Int) + 1 := by omega
    have hp1 : (k : Int) + 1 ≤ (P.length : Int) := by omega
    have hp2 : ((k : Int) + 1).toNat = k + 1 := by omega
    have hp3 : k + 1 ≤ P.length := by omega
    have hp4 : k + 1 ≤ c := by omega
    have HK := Lib.hid hk
    clear h1 h2 h3 b1 b2 hL1 hL2 hdrop hrm hb e hh hnod hlE hnc
    go_enter Try.func23, Try.ntmps23
    go_wp2_with fail
    refine HP.out.mono ?_; rintro e w' ⟨rfl, m, rfl⟩
    have c1m := c1 m
    have hzm1 := hzm m
    have hgm1 := hgz m
    obtain ⟨wm, hwm⟩ : ∃ wm : World, wm = w.drewN m := ⟨_, rfl⟩
    have HFm := Lib.hid (HF.out m)
    have HL1m := Lib.hid (HL1.out m)
    have HL2m := Lib.hid (HL2.out m)
    have hwmz : wm.heap.size = w.heap.size := by rw [hwm]; rfl
    have HZM := Lib.hid hwmz
    rw [← hwm] at c1m hzm1 hgm1 HFm HL1m HL2m
    rw [← hwm]
    clear c1 hzm hgz HP HF HL1 HL2 hwm hwmz
    go_wp2_with (first | (at_builtin; refine wpl_append rfl (.tmp 12) (.tmp 18) 36 rfl w.heap.size 64 j0 _ 2 24 Try.underlying36 hj hy0 hy1 hy2 rfl (by decide) (.slice none 0 0) 0 [] rfl (World.ownsRow_nil _ _ _ _) (some ⟨g, 0, none⟩) k c (rcells (P.take k)) rfl (by simp) HL1L.out HL1m.out (rcells_one _) (by unfold maxLen; omega) (by omega) (by rw [HZM.out]; exact Nat.le_refl _) ?_; intro v1 w1 hown1 hg1; rw [Nat.zero_add, List.nil_append] at hown1; obtain ⟨a8, c8, rfl⟩ := own_shape hown1; have hb1 : Below w.heap.size wm w1 := (Below.refl _ wm).grown hg1 (by rw [HZM.out]; exact Nat.le_refl _) (fun j hj => by simp [Value.ownBlock] at hj); have hb1' : Below wm.heap.size wm w1 := (by rw [HZM.out]; exact hb1); have c1w := cell_step c1m hb1'; have HO1 := Lib.hid hown1; have HB1 := Lib.hid hb1'; clear hown1 hg1 hb1 hb1') | (at_builtin; refine wpl_append rfl (.tmp 21) (.tmp 28) 36 rfl w.heap.size 64 j0 _ 2 24 Try.underlying36 hj hy0 hy1 hy2 rfl (by decide) (.slice a8 k c8) k (rcells (P.take k)) rfl HO1.out (some A) (P.length - (k + 1)) (c - (k + 1)) (rcells (P.drop (k + 1))) rfl (by simp) HL2L.out (HL2m.out.below HB1.out) (rcells_one _) (by unfold maxLen; omega) (by omega) (by have := HB1.out.size; have := HZM.out; omega) ?_; intro v2 w2 hown2 hg2; have hb2 : Below w.heap.size wm w2 := (by have h9 := HB1.out; rw [HZM.out] at h9; exact h9.grown hg2 (by have := h9.size; rw [HZM.out] at this; omega) (fun j hj => (HO1.out.lt j hj).1)); obtain ⟨a9, c9, rfl, ⟨v9, x0⟩, x1, x2, x3, x4⟩ := HFm.out w2 v2 hb2 hown2; have HE := Lib.hid (And.intro x3 x4); clear hown2 hg2 hb2 x3 x4 c1w))
    go_ret
    exact ⟨rfl, HE.out.1, HE.out.2⟩
end Go.Proofs.Ytejjnhgiijhglaa.rclks
