/-
  The document's net in memory: Double, Send.
-/
import Derived.Test.YtnnfagdhigodbaaNetM
namespace Go.Proofs.Ytnnfagdhigodbaa.netv
open Go.ChangeShapes Go.WideShapes Go.ChangeAt Go.RowKit Go.Shelf
open Go.Proofs.Ytnnfagdhigodbaa.kit Go.Proofs.Ytnnfagdhigodbaa.byt Go.Proofs.Ytnnfagdhigodbaa.netc Go.Proofs.Ytnnfagdhigodbaa.netg Go.Proofs.Ytnnfagdhigodbaa.nets Go.Proofs.Ytnnfagdhigodbaa.nett Go.Proofs.Ytnnfagdhigodbaa.netd Go.Proofs.Ytnnfagdhigodbaa.nete Go.Proofs.Ytnnfagdhigodbaa.netf Go.Proofs.Ytnnfagdhigodbaa.netq Go.Proofs.Ytnnfagdhigodbaa.netk Go.Proofs.Ytnnfagdhigodbaa.netm
set_option linter.unusedVariables false
set_option linter.unusedSimpArgs false
set_option maxHeartbeats 1000000
set_option maxRecDepth 100000

/-- What an append of a packet to the row and the store of the slice leave. -/
theorem rgrown {w W w5 : World} {base b : Nat} {nodes : Int} {rs : List Pkt} {Cs : Cuts} {a a2 : Option Addr} {c c2 : Nat} {p : Pkt} {v5 : Value} {o : Obj} (h1 : base ≤ b) (hbw : base ≤ w.heap.size) (h2 : w.heap[b]? = some (.cells #[.int .i64 nodes, .slice a rs.length c, .slice a2 Cs.length c2] 51 (0, 0))) (h3 : w.ownsRow base 48 3 (.slice a rs.length c) rs.length (pkcells rs)) (h4 : w.ownsRow base 80 2 (.slice a2 Cs.length c2) Cs.length (cucells Cs))
    (h6 : ∀ p ∈ rs, Body w base p) (hbW : Below w.heap.size w W) (hp : Body W base p) (hown : w5.ownsRow base 48 3 v5 (rs.length + 1) (pkcells rs ++ p.cells)) (hg : (W.alloc o).grownBy w5 (Value.slice a rs.length c).ownBlock) (hat : ∀ k, v5.ownBlock = some k → (Value.slice a rs.length c).ownBlock = some k ∨ (W.alloc o).heap.size ≤ k) :
    RefAt (w5.setCell ⟨b, 1, none⟩ v5) base b nodes (rs ++ [p]) Cs ∧ (Below base w (w5.setCell ⟨b, 1, none⟩ v5) ∧ Moved w (w5.setCell ⟨b, 1, none⟩ v5) b) ∧ ∃ v, w5.cell? ⟨b, 1, none⟩ = some v ∧ w5.frozen? ⟨b, 1, none⟩ = false := by
  obtain ⟨a', c', rfl⟩ := own_shape hown
  have hsW := hbW.size
  have h3W := own_below h3 hbW
  have h2W := hp_step h2 hbW
  have hk0 : ∀ k, k < W.heap.size → (∀ g, a = some ⟨g, 0, none⟩ → g ≠ k) → w5.heap[k]? = W.heap[k]? := fun k hk hn => (hg.block k (by rw [size_new]; omega) (fun e => hn k (own_block h3 k e.symm) rfl)).trans (hp_alloc_old hk)
  have hb5 : w5.heap[b]? = some (.cells #[.int .i64 nodes, .slice a rs.length c, .slice a2 Cs.length c2] 51 (0, 0)) := (hk0 b (blk h2W).2.2 (own_ne h3 h2 (by decide))).trans h2W
  have hk : ∀ k, k < W.heap.size → k ≠ b → (∀ g, a = some ⟨g, 0, none⟩ → g ≠ k) → (w5.setCell ⟨b, 1, none⟩ (.slice a' (rs.length + 1) c')).heap[k]? = W.heap[k]? := fun k hk hb hn => (hp_set_ne hb).trans (hk0 k hk hn)
  have hB5 : Below base W w5 := ((Below.refl _ W).alloc (Nat.le_trans hbw hsW) _).grown hg (by rw [size_new]; omega) (fun j hj => (own_from h3 j (own_block h3 j hj)).1)
  have hs5 : W.heap.size ≤ w5.heap.size := hB5.size
  have hbody : ∀ r, Body W base r → Body (w5.setCell ⟨b, 1, none⟩ (.slice a' (rs.length + 1) c')) base r := by
    intro r hr
    refine own_kept hr (fun g hgr => ?_)
    obtain ⟨cur, hcur⟩ := own_heap hr g hgr
    exact hk g (blk hcur).2.2 (own_ne hr h2W (by decide) g hgr) (own_ne h3W hcur (by decide))
  obtain ⟨m1, m2⟩ := ref_rows (W := w5.setCell ⟨b, 1, none⟩ (.slice a' (rs.length + 1) c')) (rs' := rs ++ [p]) (a' := a') (c' := c') h1 h2 h3 h4 (by rw [List.length_append]; exact hp_set hb5 1 _)
    (by
      have e : pkcells (rs ++ [p]) = pkcells rs ++ p.cells := by simp [pkcells]
      rw [e, List.length_append]
      exact own_kept hown (fun g hg' => hp_set_ne (own_ne hown hb5 (by decide) g hg')))
    (fun r hr => by
      rcases List.mem_append.1 hr with h | h
      · exact hbody r (own_below (h6 r h) hbW)
      · rw [List.mem_singleton.1 h]; exact hbody p hp)
    (fun k hk' hn hna => (hk k (by omega) hn (fun g hg e => hna g hg e.symm)).trans (hbW.block k hk'))
    (fun g hg' => by
      rcases hat g (by rw [hg']; rfl) with h | h
      · exact .inl (own_block h3 g h)
      · rw [size_new] at h; exact .inr (by omega))
    (by rw [size_set]; omega)
  exact ⟨m1, ⟨((Below.mono hbW hbw).trans hB5).setCell (p := ⟨b, 1, none⟩) h1 _, m2⟩, _, (blk3 hb5).2.1, (blk3 hb5).2.2.2.2.1⟩

theorem rdouble_out (w : World) (base b : Nat) (nodes i : Int) (rs : List Pkt) (Cs : Cuts) (h : RefAt w base b nodes rs Cs) (hi : ¬ (0 ≤ i ∧ i < rs.length)) : Calls Try.prog 32 #[.pointer (some ⟨b, 0, none⟩), .int .i64 i] w fun e w' => e = .returned (.int .i64 60) ∧ w = w' := by
  obtain ⟨h1, ⟨a, c, a2, c2, h2, h3, h4⟩, h6⟩ := h
  obtain ⟨d0, d1, d2, f0, f1, f2, hz⟩ := blk3 h2
  clear h2 h3 h4 h6
  by_cases hneg : i < 0
  · have t1 : decide (i < 0) = true := decide_eq_true hneg
    clear hi
    go_enter Try.func32, Try.ntmps32
    go_wp2_with fail
    go_ret
    exact ⟨rfl, rfl⟩
  · have t1 : decide (i < 0) = false := decide_eq_false hneg
    have t2 : decide ((rs.length : Int) ≤ i) = true := decide_eq_true (by omega)
    have t4 : (rs.length : Int) ≤ i := by omega
    clear hi
    go_enter Try.func32, Try.ntmps32
    go_wp2_with fail
    go_ret
    exact ⟨rfl, rfl⟩

theorem rdouble_full (w : World) (base b : Nat) (nodes i : Int) (rs : List Pkt) (Cs : Cuts) (h : RefAt w base b nodes rs Cs) (hi : 0 ≤ i ∧ i < rs.length) (hf : 256 ≤ rs.length) : Calls Try.prog 32 #[.pointer (some ⟨b, 0, none⟩), .int .i64 i] w fun e w' => e = .returned (.int .i64 3) ∧ w = w' := by
  obtain ⟨h1, ⟨a, c, a2, c2, h2, h3, h4⟩, h6⟩ := h
  obtain ⟨d0, d1, d2, f0, f1, f2, hz⟩ := blk3 h2
  have t1 : decide (i < 0) = false := decide_eq_false (by omega)
  have t0 : ¬ i < 0 := by omega
  have t2 : decide ((rs.length : Int) ≤ i) = false := decide_eq_false (by omega)
  have t5 : ¬ (rs.length : Int) ≤ i := by omega
  have t3 : decide ((256 : Int) ≤ rs.length) = true := decide_eq_true (by omega)
  have t4 : (256 : Int) ≤ rs.length := by omega
  clear h2 h3 h4 h6 hi
  go_enter Try.func32, Try.ntmps32
  go_wp2_with fail
  go_ret
  exact ⟨rfl, rfl⟩

theorem rdouble_ok (w : World) (base b k : Nat) (nodes : Int) (rs : List Pkt) (Cs : Cuts) (h : RefAt w base b nodes rs Cs) (hbw : base ≤ w.heap.size) (hk : k < rs.length) (hf : rs.length < 256) :
    Calls Try.prog 32 #[.pointer (some ⟨b, 0, none⟩), .int .i64 k] w fun e w' => e = .returned (.int .i64 0) ∧ RefAt w' base b nodes (rs ++ [rs[k]]) Cs ∧ Below base w w' ∧ Moved w w' b := by
  obtain ⟨j0, hj, hy0, hy1, hy2⟩ := info_parts infoPkt
  obtain ⟨h1, ⟨a, c, a2, c2, h2, h3, h4⟩, h6⟩ := h
  obtain ⟨g, rfl⟩ := own_ptr h3 (by omega)
  obtain ⟨d0, d1, d2, f0, f1, f2, hz⟩ := blk3 h2
  obtain ⟨q0, q1, q2⟩ := pk_cells h3 hk
  have hgs : g < w.heap.size := (own_from h3 g rfl).2
  have hbk := h6 _ (List.getElem_mem hk)
  obtain ⟨p, hp⟩ : ∃ p, p = rs[k] := ⟨_, rfl⟩
  rw [← hp] at q0 q1 q2 hbk ⊢
  clear hp
  have hbd := below_drewN (Below.refl w.heap.size w) 1
  have hfin : ∀ (w5 : World) (v5 : Value), w5.ownsRow base 48 3 v5 (rs.length + 1) (pkcells rs ++ p.cells) → (w.drew.alloc (.cells #[.int .i64 p.f, .int .i64 p.t, .slice p.a p.l.length p.c] 48)).grownBy w5 (Value.slice (some ⟨g, 0, none⟩) rs.length c).ownBlock → (∀ k, v5.ownBlock = some k → (Value.slice (some ⟨g, 0, none⟩) rs.length c).ownBlock = some k ∨ (w.drew.alloc (.cells #[.int .i64 p.f, .int .i64 p.t, .slice p.a p.l.length p.c] 48)).heap.size ≤ k) →
      RefAt (w5.setCell ⟨b, 1, none⟩ v5) base b nodes (rs ++ [p]) Cs ∧ (Below base w (w5.setCell ⟨b, 1, none⟩ v5) ∧ Moved w (w5.setCell ⟨b, 1, none⟩ v5) b) ∧ ∃ v, w5.cell? ⟨b, 1, none⟩ = some v ∧ w5.frozen? ⟨b, 1, none⟩ = false :=
    fun w5 v5 hown hg hat => rgrown h1 hbw h2 h3 h4 h6 hbd (own_below hbk hbd) hown hg hat
  have HFIN := Lib.hid hfin
  have HO := Lib.hid (own_below h3 hbd)
  have e2 : ∀ o : Obj, (w.drew.alloc o).cell? ⟨b, 1, none⟩ = some (.slice (some ⟨g, 0, none⟩) rs.length c) := fun o => cell_step (cell_step d1 hbd) (below_new1 _ o)
  have t1 : decide ((k : Int) < 0) = false := decide_eq_false (by omega)
  have t0 : ¬ (k : Int) < 0 := by omega
  have t2 : decide ((rs.length : Int) ≤ k) = false := decide_eq_false (by omega)
  have t5 : ¬ (rs.length : Int) ≤ k := by omega
  have t3 : decide ((256 : Int) ≤ rs.length) = false := decide_eq_false (by omega)
  have t4 : ¬ (256 : Int) ≤ rs.length := by omega
  have t6 : (k : Int) < rs.length := by omega
  have t7 : (0 : Int) ≤ k := by omega
  have hzd : base ≤ w.drew.heap.size := hbw
  clear h2 h3 h4 h6 hfin hbk hbd
  go_enter Try.func32, Try.ntmps32
  go_wp2_with fail
  go_region_law (refine step_append_at rfl (.tmp 26) (.tmp 34) 43 rfl base 48 j0 _ 3 40 Try.underlying43 hj hy0 hy1 hy2 rfl (by decide) (.slice (some ⟨g, 0, none⟩) rs.length c) rs.length (pkcells rs) rfl (HO.out.alloc _) ⟨w.heap.size, 0, none⟩ 1 1 [.int .i64 p.f, .int .i64 p.t, .slice p.a p.l.length p.c] rfl rfl (lie_new3 w.drew _ _ _ _) (by simp [Value.oneCell']) (by unfold maxLen; omega) (by omega) (by show base ≤ (w.alloc _).heap.size; rw [size_new]; omega) ?_; intro v5 w5 hown hgr hat5; obtain ⟨a5, c5, rfl⟩ := own_shape hown; obtain ⟨hF1, hF2, vo, hF3, hF4⟩ := HFIN.out w5 _ hown hgr hat5; have HF := Lib.hid (And.intro hF1 hF2); clear hF1 hF2 hown hgr hat5)
  all_goals
    go_wp2_with fail
    go_ret
    exact ⟨rfl, HF.out.1, HF.out.2⟩

theorem rsend_arg (w : World) (base b : Nat) (nodes x y : Int) (rs : List Pkt) (Cs : Cuts) (ad : Option Addr) (n k : Nat) (h : RefAt w base b nodes rs Cs) (hn : ¬ may nodes x y n) :
    Calls Try.prog 35 #[.pointer (some ⟨b, 0, none⟩), .int .i64 x, .int .i64 y, .slice ad n k] w fun e w' => e = .returned (.int .i64 1) ∧ w = w' := by
  obtain ⟨h1, ⟨a, c, a2, c2, h2, h3, h4⟩, h6⟩ := h
  obtain ⟨d0, d1, d2, f0, f1, f2, hz⟩ := blk3 h2
  have hA := ris_any w b nodes x d0
  have hB := ris_any w b nodes y d0
  clear h2 h3 h4 h6
  by_cases hx : isN nodes x
  · rw [show decide (1 ≤ x ∧ x ≤ nodes) = true from decide_eq_true hx] at hA
    by_cases hy : isN nodes y
    · rw [show decide (1 ≤ y ∧ y ≤ nodes) = true from decide_eq_true hy] at hB
      have hl : ¬ n ≤ 16384 := fun e => hn ⟨hx, hy, e⟩
      have t1 : decide ((16384 : Int) < n) = true := decide_eq_true (by omega)
      have t2 : (16384 : Int) < n := by omega
      clear hn
      go_enter Try.func35, Try.ntmps35
      go_wp2_with fail
      refine hA.mono ?_; rintro e w1 ⟨rfl, rfl⟩
      go_wp2_with fail
      refine hB.mono ?_; rintro e w1 ⟨rfl, rfl⟩
      go_wp2_with fail
      go_ret
      exact ⟨rfl, rfl⟩
    · rw [show decide (1 ≤ y ∧ y ≤ nodes) = false from decide_eq_false hy] at hB
      clear hn
      go_enter Try.func35, Try.ntmps35
      go_wp2_with fail
      refine hA.mono ?_; rintro e w1 ⟨rfl, rfl⟩
      go_wp2_with fail
      refine hB.mono ?_; rintro e w1 ⟨rfl, rfl⟩
      go_wp2_with fail
      go_ret
      exact ⟨rfl, rfl⟩
  · rw [show decide (1 ≤ x ∧ x ≤ nodes) = false from decide_eq_false hx] at hA
    clear hn
    go_enter Try.func35, Try.ntmps35
    go_wp2_with fail
    refine hA.mono ?_; rintro e w1 ⟨rfl, rfl⟩
    go_wp2_with fail
    go_ret
    exact ⟨rfl, rfl⟩

theorem rsend_cut (w : World) (base b : Nat) (nodes x y : Int) (rs : List Pkt) (Cs : Cuts) (ad : Option Addr) (n k : Nat) (h : RefAt w base b nodes rs Cs) (hm : may nodes x y n) (hc : apartB Cs x y = true) :
    Calls Try.prog 35 #[.pointer (some ⟨b, 0, none⟩), .int .i64 x, .int .i64 y, .slice ad n k] w fun e w' => e = .returned (.int .i64 0) ∧ w = w' := by
  have hP := rapart_any w base b nodes x y rs Cs h
  obtain ⟨h1, ⟨a, c, a2, c2, h2, h3, h4⟩, h6⟩ := h
  obtain ⟨d0, d1, d2, f0, f1, f2, hz⟩ := blk3 h2
  have hA := ris_any w b nodes x d0
  have hB := ris_any w b nodes y d0
  rw [show decide (1 ≤ x ∧ x ≤ nodes) = true from decide_eq_true hm.1] at hA
  rw [show decide (1 ≤ y ∧ y ≤ nodes) = true from decide_eq_true hm.2.1] at hB
  rw [hc] at hP
  have hl := hm.2.2
  have t1 : decide ((16384 : Int) < n) = false := decide_eq_false (by omega)
  have t2 : ¬ (16384 : Int) < n := by omega
  clear h2 h3 h4 h6 hc hm
  go_enter Try.func35, Try.ntmps35
  go_wp2_with fail
  refine hA.mono ?_; rintro e w1 ⟨rfl, rfl⟩
  go_wp2_with fail
  refine hB.mono ?_; rintro e w1 ⟨rfl, rfl⟩
  go_wp2_with fail
  refine hP.mono ?_; rintro e w1 ⟨rfl, rfl⟩
  go_wp2_with fail
  go_ret
  exact ⟨rfl, rfl⟩

theorem rsend_full (w : World) (base b : Nat) (nodes x y : Int) (rs : List Pkt) (Cs : Cuts) (ad : Option Addr) (n k : Nat) (h : RefAt w base b nodes rs Cs) (hm : may nodes x y n) (hc : apartB Cs x y = false) (hf : 256 ≤ rs.length) :
    Calls Try.prog 35 #[.pointer (some ⟨b, 0, none⟩), .int .i64 x, .int .i64 y, .slice ad n k] w fun e w' => e = .returned (.int .i64 3) ∧ w = w' := by
  have hP := rapart_any w base b nodes x y rs Cs h
  obtain ⟨h1, ⟨a, c, a2, c2, h2, h3, h4⟩, h6⟩ := h
  obtain ⟨d0, d1, d2, f0, f1, f2, hz⟩ := blk3 h2
  have hA := ris_any w b nodes x d0
  have hB := ris_any w b nodes y d0
  rw [show decide (1 ≤ x ∧ x ≤ nodes) = true from decide_eq_true hm.1] at hA
  rw [show decide (1 ≤ y ∧ y ≤ nodes) = true from decide_eq_true hm.2.1] at hB
  rw [hc] at hP
  have hl := hm.2.2
  have t1 : decide ((16384 : Int) < n) = false := decide_eq_false (by omega)
  have t2 : ¬ (16384 : Int) < n := by omega
  have t3 : decide ((256 : Int) ≤ rs.length) = true := decide_eq_true (by omega)
  have t4 : (256 : Int) ≤ rs.length := by omega
  clear h2 h3 h4 h6 hc hm
  go_enter Try.func35, Try.ntmps35
  go_wp2_with fail
  refine hA.mono ?_; rintro e w1 ⟨rfl, rfl⟩
  go_wp2_with fail
  refine hB.mono ?_; rintro e w1 ⟨rfl, rfl⟩
  go_wp2_with fail
  refine hP.mono ?_; rintro e w1 ⟨rfl, rfl⟩
  go_wp2_with fail
  go_ret
  exact ⟨rfl, rfl⟩

theorem rsend_ok (w : World) (base b : Nat) (nodes x y : Int) (rs : List Pkt) (Cs : Cuts) (ad : Option Addr) (l : List Nat) (k : Nat) (h : RefAt w base b nodes rs Cs) (hbw : base ≤ w.heap.size) (hm : may nodes x y l.length) (hc : apartB Cs x y = false) (hf : rs.length < 256) (hn : ad = none → l.length = 0 ∧ k = 0) (hat : Lie w ad (bcells l)) :
    Calls Try.prog 35 #[.pointer (some ⟨b, 0, none⟩), .int .i64 x, .int .i64 y, .slice ad l.length k] w fun e w' => e = .returned (.int .i64 0) ∧ (∃ a' c', RefAt w' base b nodes (rs ++ [⟨x, y, l, a', c'⟩]) Cs ∧ ∀ z, a' = some ⟨z, 0, none⟩ → w.heap.size ≤ z) ∧ Below base w w' ∧ Moved w w' b := by
  obtain ⟨j0, hj, hy0, hy1, hy2⟩ := info_parts infoPkt
  obtain ⟨i0, hi, hz0, hz1, hz2⟩ := info_parts infoByte
  have hP := rapart_any w base b nodes x y rs Cs h
  obtain ⟨h1, ⟨a, c, a2, c2, h2, h3, h4⟩, h6⟩ := h
  obtain ⟨d0, d1, d2, f0, f1, f2, hz⟩ := blk3 h2
  have hA := ris_any w b nodes x d0
  have hB := ris_any w b nodes y d0
  rw [show decide (1 ≤ x ∧ x ≤ nodes) = true from decide_eq_true hm.1] at hA
  rw [show decide (1 ≤ y ∧ y ≤ nodes) = true from decide_eq_true hm.2.1] at hB
  rw [hc] at hP
  have hl := hm.2.2
  have t1 : decide ((16384 : Int) < l.length) = false := decide_eq_false (by omega)
  have t2 : ¬ (16384 : Int) < l.length := by omega
  have t3 : decide ((256 : Int) ≤ rs.length) = false := decide_eq_false (by omega)
  have t4 : ¬ (256 : Int) ≤ rs.length := by omega
  obtain ⟨wE, hwE⟩ : ∃ wE : World, wE = w.drew.alloc (.cells #[] 5) := ⟨_, rfl⟩
  have hbE : Below w.heap.size w wE := by rw [hwE]; exact below_step (below_drewN (Below.refl _ w) 1) (below_new1 _ _)
  have hsE : wE.heap.size = w.heap.size + 1 := by rw [hwE, size_new]; rfl
  have hownE : wE.ownsRow w.heap.size 5 1 (.slice (some ⟨w.heap.size, 0, none⟩) 0 0) 0 [] :=
    ⟨rfl, .inr ⟨w.heap.size, 0, #[], rfl, Nat.le_refl _, by rw [hwE]; exact hp_alloc_new w.drew _, Nat.le_refl _, by simp [maxLen], rfl, rfl⟩⟩
  have hfin : ∀ (W w5 : World) (a' : Option Addr) (c' : Nat) (v5 : Value), Below w.heap.size w W → W.ownsRow w.heap.size 5 1 (.slice a' l.length c') l.length (bcells l) → w5.ownsRow base 48 3 v5 (rs.length + 1) (pkcells rs ++ [.int .i64 x, .int .i64 y, .slice a' l.length c']) → (W.alloc (.cells #[.int .i64 x, .int .i64 y, .slice a' l.length c'] 48)).grownBy w5 (Value.slice a rs.length c).ownBlock → (∀ k, v5.ownBlock = some k → (Value.slice a rs.length c).ownBlock = some k ∨ (W.alloc (.cells #[.int .i64 x, .int .i64 y, .slice a' l.length c'] 48)).heap.size ≤ k) →
      RefAt (w5.setCell ⟨b, 1, none⟩ v5) base b nodes (rs ++ [⟨x, y, l, a', c'⟩]) Cs ∧ (Below base w (w5.setCell ⟨b, 1, none⟩ v5) ∧ Moved w (w5.setCell ⟨b, 1, none⟩ v5) b) ∧ ∃ v, w5.cell? ⟨b, 1, none⟩ = some v ∧ w5.frozen? ⟨b, 1, none⟩ = false :=
    fun W w5 a' c' v5 hb hp hown hg hat => rgrown (p := ⟨x, y, l, a', c'⟩) h1 hbw h2 h3 h4 h6 hb (own_mono hp hbw) hown hg hat
  have HFIN := Lib.hid hfin
  have HO := Lib.hid (fun W (hb : Below w.heap.size w W) => own_below h3 hb)
  subst hwE
  have HOE := Lib.hid hownE
  have HBE := Lib.hid hbE
  have HSE : Hid (w.heap.size ≤ (w.drew.alloc (.cells #[] 5)).heap.size) := hbE.size
  have HLE := Lib.hid (hat.below hbE)
  have HN := Lib.hid hn
  clear h2 h3 h4 h6 hc hm hfin hownE hbE hat hn hsE
  go_enter Try.func35, Try.ntmps35
  go_wp2_with fail
  refine hA.mono ?_; rintro e w1 ⟨rfl, rfl⟩
  go_wp2_with fail
  refine hB.mono ?_; rintro e w1 ⟨rfl, rfl⟩
  go_wp2_with fail
  refine hP.mono ?_; rintro e w1 ⟨rfl, rfl⟩
  go_wp2_with fail
  go_region_law (first | (refine step_append rfl (.tmp 41) (.tmp 42) 23 rfl w.heap.size 5 i0 _ 1 1 Try.underlying23 hi hz0 hz1 hz2 rfl (by decide) (.slice (some ⟨w.heap.size, 0, none⟩) 0 0) 0 [] rfl HOE.out ad l.length k (bcells l) rfl HN.out (by simp [bcells]) HLE.out (bcells_one _) (by unfold maxLen; omega) (by omega) HSE.out ?_; intro v4 w4 hown4 hgr4; rw [Nat.zero_add, List.nil_append] at hown4; obtain ⟨pa, pc, rfl⟩ := own_shape hown4; have hb4 : Below w.heap.size w w4 := HBE.out.grown hgr4 HBE.out.size (fun j hj => (HOE.out.lt j hj).1); have e1 := cell_step d1 hb4; have e2 : ∀ o : Obj, (w4.alloc o).cell? ⟨b, 1, none⟩ = some (.slice a rs.length c) := (fun o => cell_step e1 (below_new1 w4 o)); have HPB := Lib.hid hown4; have HB2 := Lib.hid hb4; clear hown4 hgr4 hb4) | (refine step_append_at rfl (.tmp 38) (.tmp 45) 43 rfl base 48 j0 _ 3 40 Try.underlying43 hj hy0 hy1 hy2 rfl (by decide) (.slice a rs.length c) rs.length (pkcells rs) rfl ((HO.out _ HB2.out).alloc _) ⟨w4.heap.size, 0, none⟩ 1 1 [.int .i64 x, .int .i64 y, .slice pa l.length pc] rfl rfl (lie_new3 _ _ _ _ _) (by simp [Value.oneCell']) (by unfold maxLen; omega) (by omega) (by rw [size_new]; have := HB2.out.size; omega) ?_; intro v5 w5 hown hgr hat5; obtain ⟨a5, c5, rfl⟩ := own_shape hown; obtain ⟨hF1, hF2, vo, hF3, hF4⟩ := HFIN.out w4 w5 pa pc _ HB2.out HPB.out hown hgr hat5; have HF := Lib.hid (And.intro hF1 hF2); clear hF1 hF2 hown hgr hat5))
  all_goals
    go_wp2_with fail
    go_ret
    exact ⟨rfl, ⟨_, _, HF.out.1, fun z hz => (own_from HPB.out z hz).1⟩, HF.out.2⟩
end Go.Proofs.Ytnnfagdhigodbaa.netv
