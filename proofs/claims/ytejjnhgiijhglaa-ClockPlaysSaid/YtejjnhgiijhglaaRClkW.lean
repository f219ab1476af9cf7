/-
  ClockPlays: both clocks in one memory; one call on both (printed once by a program; XNetY's shape).
-/
import Derived.Test.YtejjnhgiijhglaaRClkV
import Derived.Test.YtejjnhgiijhglaaClkPl
import Derived.Deep.RegionHeld3
namespace Go.Proofs.Ytejjnhgiijhglaa.rclkw
open Go.ChangeShapes Go.WideShapes Go.ChangeAt Go.RowKit
open Go.Proofs.Ytejjnhgiijhglaa.kit Go.Proofs.Ytejjnhgiijhglaa.mapkit Go.Proofs.Ytejjnhgiijhglaa.own Go.Proofs.Ytejjnhgiijhglaa.clkp Go.Proofs.Ytejjnhgiijhglaa.clks Go.Proofs.Ytejjnhgiijhglaa.clkt Go.Proofs.Ytejjnhgiijhglaa.clkr Go.Proofs.Ytejjnhgiijhglaa.clkpl Go.Proofs.Ytejjnhgiijhglaa.rclkp Go.Proofs.Ytejjnhgiijhglaa.rclk Go.Proofs.Ytejjnhgiijhglaa.rclks Go.Proofs.Ytejjnhgiijhglaa.rclkt Go.Proofs.Ytejjnhgiijhglaa.rclku
set_option linter.unusedVariables false
set_option linter.unusedSimpArgs false
set_option maxHeartbeats 2000000
set_option maxRecDepth 100000

/-- What a call on the clock leaves of rows and blocks of other types. -/
theorem cm_hp {w w' : World} {base cb mb : Nat} {A : CkS} (hC : ClkIs w base cb mb A) {r : Nat} (hk : Keep (CM w r mb) w w') {k : Nat} {cs : Array Value} {T : TypeId} {f : Nat × Nat} (h : w.heap[k]? = some (.cells cs T f)) (h1 : T ≠ 51) (h2 : T ≠ 52) (h3 : T ≠ 55) : w'.heap[k]? = some (.cells cs T f) := by
  refine (hk.block k (Array.getElem?_eq_some_iff.1 h).1 ?_).trans h
  rintro (⟨-, cs', T', f', e, e2⟩ | e)
  · rw [h] at e
    simp only [Option.some.injEq, Obj.cells.injEq] at e
    obtain ⟨-, rfl, -⟩ := e
    rcases e2 with rfl | rfl | rfl
    · exact h1 rfl
    · exact h2 rfl
    · exact h3 rfl
  · obtain ⟨-, -, a, c, q, -, -, -, hm⟩ := hC
    obtain ⟨es, cl, hme⟩ := hm.obj
    rw [e, hme] at h; cases h
theorem ref_keepC {w w' : World} {base cb mb rb r : Nat} {A : CkS} {now : Int} {P : List T3} (hC : ClkIs w base cb mb A) (hk : Keep (CM w r mb) w w') (h : RefAt w base rb now P) : RefAt w' base rb now P := by
  obtain ⟨h1, a, c, h2, h3⟩ := h
  refine ⟨h1, a, c, cm_hp hC hk h2 (by decide) (by decide) (by decide), own_kept h3 (fun g hg => ?_)⟩
  obtain ⟨cur, hcur⟩ := own_heap h3 g hg
  rw [hcur]
  exact cm_hp hC hk hcur (by decide) (by decide) (by decide)
theorem cr_hp {w w' : World} {r : Nat} (hk : Keep (CR w r) w w') {k : Nat} {cs : Array Value} {T : TypeId} {f : Nat × Nat} (h : w.heap[k]? = some (.cells cs T f)) (h1 : T ≠ 38) (h2 : T ≠ 64) : w'.heap[k]? = some (.cells cs T f) := by
  refine (hk.block k (Array.getElem?_eq_some_iff.1 h).1 ?_).trans h
  rintro ⟨-, cs', T', f', e, e2⟩
  rw [h] at e
  simp only [Option.some.injEq, Obj.cells.injEq] at e
  obtain ⟨-, rfl, -⟩ := e
  rcases e2 with rfl | rfl
  · exact h1 rfl
  · exact h2 rfl
theorem clk_keepR {w w' : World} {base cb mb r : Nat} {A : CkS} (h : ClkIs w base cb mb A) (hk : Keep (CR w r) w w') : ClkIs w' base cb mb A := by
  obtain ⟨h1, h2, a, c, q, h3, h4, h5, h6⟩ := h
  refine ⟨h1, h2, a, c, q, ⟨h3.lob, cr_hp hk h3.blk (by decide) (by decide), own_kept h3.row (fun g hg => ?_), fun k hk' => cr_hp hk (h3.tms k hk') (by decide) (by decide), h3.lot, h3.num⟩, h4, h5, ?_⟩
  · obtain ⟨cur, hcur⟩ := own_heap h3.row g hg
    rw [hcur]
    exact cr_hp hk hcur (by decide) (by decide)
  · obtain ⟨es, cl, hme⟩ := h6.obj
    refine h6.to (hk.block mb h6.lt ?_)
    rintro ⟨-, cs', T', f', e, -⟩
    rw [hme] at e; cases e
theorem str_keepR {w w' : World} {r N n c : Nat} {a : Option Addr} {xs : List Value} (h : w.ownsRow N 9 1 (.slice a n c) n xs) (hk : Keep (CR w r) w w') : w'.ownsRow N 9 1 (.slice a n c) n xs := by
  refine own_kept h (fun g hg => ?_)
  obtain ⟨cur, hcur⟩ := own_heap h g hg
  rw [hcur]
  exact cr_hp hk hcur (by decide) (by decide)

/-- Both clocks, alike. -/
structure Both (w : World) (base cb mb rb : Nat) (A : CkS) (P : List T3) : Prop where
  clk : ClkIs w base cb mb A
  ref : RefAt w base rb A.now P
  rel : Rel A P
theorem Both.below {w w' : World} {base cb mb rb : Nat} {A : CkS} {P : List T3} (h : Both w base cb mb rb A P) (hb : Below w.heap.size w w') : Both w' base cb mb rb A P := ⟨h.clk.below hb, h.ref.below hb, h.rel⟩

theorem step_stop (w : World) (base cb mb rb : Nat) (A : CkS) (P : List T3) (n : ByteArray) (i : Int) (h : Both w base cb mb rb A P) (hbase : base ≤ w.heap.size) (hn : n.size ≤ maxLen) :
    Calls Try.prog 15 #[.pointer (some ⟨cb, 0, none⟩), .pointer (some ⟨rb, 0, none⟩), .agg #[.int .i64 1, .string n, .int .i64 i]] w fun e w' => e = .returned (.bool true) ∧ (∃ P', Both w' base cb mb rb (stopS A n) P') ∧ Below base w w' := by
  obtain ⟨w1, hw1⟩ : ∃ w1 : World, w1 = w.alloc (.cells #[.int .i64 1, .string n, .int .i64 i] 41) := ⟨_, rfl⟩
  have hb1 : Below w.heap.size w w1 := by rw [hw1]; exact below_new1 _ _
  have hx1 : w1.heap[w.heap.size]? = some (.cells #[.int .i64 1, .string n, .int .i64 i] 41 (0, 0)) := by rw [hw1]; exact hp_alloc_new _ _
  have hz1 : w1.heap.size = w.heap.size + 1 := by rw [hw1, size_new]
  have H1 := Lib.hid (h.below hb1)
  have HX1 := Lib.hid hx1
  have HB1 := Lib.hid (Below.mono hb1 hbase)
  have HW := Lib.hid hw1
  have hbs : base ≤ w1.heap.size := by omega
  obtain ⟨q1, q2, xz⟩ := kit.blk hx1
  have x0 : w1.cell? ⟨w.heap.size, 0, none⟩ = some (.int .i64 1) := q1 0
  have x1 : w1.cell? ⟨w.heap.size, 1, none⟩ = some (.string n) := q1 1
  have x2 : w1.cell? ⟨w.heap.size, 2, none⟩ = some (.int .i64 i) := q1 2
  have HC : Hid (∀ w2 : World, Both w2 base cb mb rb A P → base ≤ w2.heap.size → Calls Try.prog 21 #[.pointer (some ⟨cb, 0, none⟩), .string n] w2 fun e w' => e = .returned (.bool (has A.s n)) ∧ ClkIs w' base cb mb (stopS A n) ∧ Keep (CM w2 base mb) w2 w') := fun w2 h2 hz => stop_ok w2 base cb mb A n h2.clk hz hn
  have hl64 : P.length ≤ 64 := by rw [rel_len h.rel]; exact h.clk.ok.len
  have HRR : Hid (∀ w2 : World, RefAt w2 base rb A.now P → base ≤ w2.heap.size → Calls Try.prog 23 #[.pointer (some ⟨rb, 0, none⟩), .string n] w2 fun e w' => e = .returned (.bool (has A.s n)) ∧ RefAt w' base rb A.now (rm P n) ∧ Keep (CR w2 base) w2 w') := fun w2 h2 hz => by
    have := rstop_ok w2 base rb A.now P n h2 hz hl64 (rel_nod h.rel h.clk.ok)
    rw [rel_has h.rel] at this
    exact this
  have HREL : Hid (Rel (stopS A n) (rm P n)) := rel_stop h.rel n
  obtain ⟨bv, hbv⟩ : ∃ x, x = has A.s n := ⟨_, rfl⟩
  rw [← hbv] at HC HRR
  have H1d := Lib.hid (H1.out.below (below_drewN (Below.refl _ w1) 1))
  have HCD := Lib.hid (HC.out w1.drew H1d.out hbs)
  clear hbv h hw1 hb1 hx1 hz1 q1 q2 hn
  go_enter Try.func15, Try.ntmps15
  go_wp2_with fail
  rw [← HW.out]
  go_region_held3 (fun w' => w'.cell? ⟨w.heap.size, 1, none⟩ = some (.string n)) (first | (exact x1) | (exact y1) | (exact z1)) (first | (go_at_call 21; refine HCD.out.mono ?_; rintro e w2 ⟨rfl, hc2, hk2⟩; have HC2 := Lib.hid hc2; have HR2 := Lib.hid (ref_keepC H1d.out.clk hk2 H1d.out.ref); have HX2 := Lib.hid (cm_hp H1d.out.clk hk2 HX1.out (by decide) (by decide) (by decide)); have y1 : w2.cell? ⟨w.heap.size, 1, none⟩ = some (.string n) := (kit.blk HX2.out).1 1; have hs2 : w1.heap.size ≤ w2.heap.size := hk2.size; have HB2 := Lib.hid (cm_below hk2 H1d.out.clk.lom hbs); have HRC := Lib.hid (HRR.out w2 HR2.out (Nat.le_trans hbs hs2)); clear hc2 hk2) | (go_at_call 23; refine HRC.out.mono ?_; rintro e w3 ⟨rfl, hr3, hk3⟩; have HR3 := Lib.hid hr3; have HC3 := Lib.hid (clk_keepR HC2.out hk3); have z1 : w3.cell? ⟨w.heap.size, 1, none⟩ = some (.string n) := (kit.blk (cr_hp hk3 HX2.out (by decide) (by decide))).1 1; have HB3 := Lib.hid (cr_below hk3 (Nat.le_trans hbs hs2)); clear hr3 hk3))
  go_wp2_with fail
  go_ret
  exact ⟨by first | rfl | simp, ⟨_, HC3.out, HR3.out, HREL.out⟩, ((below_drewN HB1.out 1).trans HB2.out).trans HB3.out⟩

theorem step_set (w : World) (base cb mb rb : Nat) (A : CkS) (P : List T3) (kd : Int) (n : ByteArray) (i : Int) (h : Both w base cb mb rb A P) (hbase : base ≤ w.heap.size) (hn : n.size ≤ maxLen) (ht : A.turns + 1 ≤ 1125899906842624) (hk1 : kd ≠ 1) (hk2 : kd ≠ 2) :
    Calls Try.prog 15 #[.pointer (some ⟨cb, 0, none⟩), .pointer (some ⟨rb, 0, none⟩), .agg #[.int .i64 kd, .string n, .int .i64 i]] w fun e w' => e = .returned (.bool true) ∧ (∃ P', Both w' base cb mb rb (setS A n i) P') ∧ Below base w w' := by
  obtain ⟨w1, hw1⟩ : ∃ w1 : World, w1 = w.alloc (.cells #[.int .i64 kd, .string n, .int .i64 i] 41) := ⟨_, rfl⟩
  have hb1 : Below w.heap.size w w1 := by rw [hw1]; exact below_new1 _ _
  have hx1 : w1.heap[w.heap.size]? = some (.cells #[.int .i64 kd, .string n, .int .i64 i] 41 (0, 0)) := by rw [hw1]; exact hp_alloc_new _ _
  have hz1 : w1.heap.size = w.heap.size + 1 := by rw [hw1, size_new]
  have H1 := Lib.hid (h.below hb1)
  have HX1 := Lib.hid hx1
  have HB1 := Lib.hid (Below.mono hb1 hbase)
  have HW := Lib.hid hw1
  have hbs : base ≤ w1.heap.size := by omega
  obtain ⟨q1, q2, xz⟩ := kit.blk hx1
  have x0 : w1.cell? ⟨w.heap.size, 0, none⟩ = some (.int .i64 kd) := q1 0
  have x1 : w1.cell? ⟨w.heap.size, 1, none⟩ = some (.string n) := q1 1
  have x2 : w1.cell? ⟨w.heap.size, 2, none⟩ = some (.int .i64 i) := q1 2
  have g1 : (kd == 1) = false := by simpa using hk1
  have g2 : (kd == 2) = false := by simpa using hk2
  have HC : Hid (∀ w2 : World, Both w2 base cb mb rb A P → base ≤ w2.heap.size → Calls Try.prog 11 #[.pointer (some ⟨cb, 0, none⟩), .string n, .int .i64 i] w2 fun e w' => e = .returned (.int .i64 (setE A n i)) ∧ ClkIs w' base cb mb (setS A n i) ∧ Keep (CM w2 base mb) w2 w') := fun w2 h2 hz => set_ok w2 base cb mb A n i h2.clk hz hn ht
  have hoA := h.clk.ok
  have hrl := h.rel
  have HRR : Hid (∀ w2 : World, RefAt w2 base rb A.now P → base ≤ w2.heap.size → Calls Try.prog 25 #[.pointer (some ⟨rb, 0, none⟩), .string n, .int .i64 i] w2 fun e w' => e = .returned (.int .i64 (setE A n i)) ∧ (∃ P', RefAt w' base rb (setS A n i).now P' ∧ Rel (setS A n i) P') ∧ Keep (CR w2 base) w2 w') := fun w2 h2 hz => rset_ok w2 base rb A P n i h2 hz hrl hoA hn
  obtain ⟨ev, hev⟩ : ∃ x, x = setE A n i := ⟨_, rfl⟩
  rw [← hev] at HC HRR
  have H1d := Lib.hid (H1.out.below (below_drewN (Below.refl _ w1) 1))
  have HCD := Lib.hid (HC.out w1.drew H1d.out hbs)
  clear hev h hw1 hb1 hx1 hz1 q1 q2 hn hoA hrl hk1 hk2 ht
  go_enter Try.func15, Try.ntmps15
  go_wp2_with fail
  rw [← HW.out]
  go_region_held3 (fun w' => w'.cell? ⟨w.heap.size, 1, none⟩ = some (.string n) ∧ w'.cell? ⟨w.heap.size, 2, none⟩ = some (.int .i64 i)) (first | (exact ⟨x1, x2⟩) | (exact ⟨y1, y2⟩) | (exact ⟨z1, z2⟩)) (first | (go_at_call 11; refine HCD.out.mono ?_; rintro e w2 ⟨rfl, hc2, hk2⟩; have HC2 := Lib.hid hc2; have HR2 := Lib.hid (ref_keepC H1d.out.clk hk2 H1d.out.ref); have HX2 := Lib.hid (cm_hp H1d.out.clk hk2 HX1.out (by decide) (by decide) (by decide)); have y1 : w2.cell? ⟨w.heap.size, 1, none⟩ = some (.string n) := (kit.blk HX2.out).1 1; have y2 : w2.cell? ⟨w.heap.size, 2, none⟩ = some (.int .i64 i) := (kit.blk HX2.out).1 2; have hs2 : w1.heap.size ≤ w2.heap.size := hk2.size; have HB2 := Lib.hid (cm_below hk2 H1d.out.clk.lom hbs); have HRC := Lib.hid (HRR.out w2 HR2.out (Nat.le_trans hbs hs2)); clear hc2 hk2) | (go_at_call 25; refine HRC.out.mono ?_; rintro e w3 ⟨rfl, hr3, hk3⟩; have HR3 := Lib.hid hr3; have HC3 := Lib.hid (clk_keepR HC2.out hk3); have z1 : w3.cell? ⟨w.heap.size, 1, none⟩ = some (.string n) := (kit.blk (cr_hp hk3 HX2.out (by decide) (by decide))).1 1; have z2 : w3.cell? ⟨w.heap.size, 2, none⟩ = some (.int .i64 i) := (kit.blk (cr_hp hk3 HX2.out (by decide) (by decide))).1 2; have HB3 := Lib.hid (cr_below hk3 (Nat.le_trans hbs hs2)); clear hr3 hk3))
  go_wp2_with fail
  go_ret
  obtain ⟨P', hP1, hP2⟩ := HR3.out
  exact ⟨by first | rfl | simp, ⟨P', HC3.out, hP1, hP2⟩, ((below_drewN HB1.out 1).trans HB2.out).trans HB3.out⟩

theorem step_tick (w : World) (base cb mb rb : Nat) (A : CkS) (P : List T3) (n : ByteArray) (i : Int) (h : Both w base cb mb rb A P) (hbase : base ≤ w.heap.size) (hf : Fut A) (ht : A.now + 1 ≤ 1125899906842624) :
    Calls Try.prog 15 #[.pointer (some ⟨cb, 0, none⟩), .pointer (some ⟨rb, 0, none⟩), .agg #[.int .i64 2, .string n, .int .i64 i]] w fun e w' => e = .returned (.bool true) ∧ (∃ P', Both w' base cb mb rb (tickS A) P') ∧ Below base w w' := by
  obtain ⟨w1, hw1⟩ : ∃ w1 : World, w1 = w.alloc (.cells #[.int .i64 2, .string n, .int .i64 i] 41) := ⟨_, rfl⟩
  have hb1 : Below w.heap.size w w1 := by rw [hw1]; exact below_new1 _ _
  have hx1 : w1.heap[w.heap.size]? = some (.cells #[.int .i64 2, .string n, .int .i64 i] 41 (0, 0)) := by rw [hw1]; exact hp_alloc_new _ _
  have hz1 : w1.heap.size = w.heap.size + 1 := by rw [hw1, size_new]
  have H1 := Lib.hid (h.below hb1)
  have HX1 := Lib.hid hx1
  have HB1 := Lib.hid (Below.mono hb1 hbase)
  have HW := Lib.hid hw1
  have hbs : base ≤ w1.heap.size := by omega
  obtain ⟨q1, q2, xz⟩ := kit.blk hx1
  have x0 : w1.cell? ⟨w.heap.size, 0, none⟩ = some (.int .i64 2) := q1 0
  have x1 : w1.cell? ⟨w.heap.size, 1, none⟩ = some (.string n) := q1 1
  have x2 : w1.cell? ⟨w.heap.size, 2, none⟩ = some (.int .i64 i) := q1 2
  have HCD := Lib.hid (tick_ok w1 base cb mb A H1.out.clk hbs hf ht)
  have hoA := h.clk.ok
  have hrl := h.rel
  have HRR : Hid (∀ w2 : World, RefAt w2 base rb A.now P → base ≤ w2.heap.size → _) := fun w2 h2 hz => rtick_ok w2 base rb A P h2 hz hrl hoA hf ht
  have hT64 : (told A).length ≤ 64 := by
    have h1 : (told A).length ≤ A.s.length := by unfold told; rw [List.length_map]; exact List.length_filter_le _ _
    exact Nat.le_trans h1 hoA.len
  clear h hw1 hb1 hx1 hz1 q1 q2 hoA hrl hf ht
  go_enter Try.func15, Try.ntmps15
  go_wp2_with fail
  rw [← HW.out]
  refine HCD.out.mono ?_; rintro e w2 ⟨a2, c2, rfl, hr2, hc2, hk2⟩
  have HC2 := Lib.hid hc2
  have HR2 := Lib.hid (ref_keepC H1.out.clk hk2 H1.out.ref)
  have HS2 := Lib.hid hr2
  have hs2 : w1.heap.size ≤ w2.heap.size := hk2.size
  have HB2 := Lib.hid (cm_below hk2 H1.out.clk.lom hbs)
  have HRC := Lib.hid (HRR.out w2 HR2.out (Nat.le_trans hbs hs2))
  clear hc2 hk2 hr2 x0 x1 x2
  go_wp2_with fail
  refine HRC.out.mono ?_; rintro e w3 ⟨a3, c3, rfl, hr3, hp3, hk3⟩
  have HP3 := Lib.hid hp3
  have HC3 := Lib.hid (clk_keepR HC2.out hk3)
  have HB3 := Lib.hid (cr_below hk3 (Nat.le_trans hbs hs2))
  have HPL := Lib.hid (plain_ok w3 _ _ c2 c3 a2 a3 (told A) (str_keepR HS2.out hk3) hr3 hT64)
  clear hr3 hp3 hk3
  go_wp2_with fail
  refine HPL.out.mono ?_; rintro e w4 ⟨rfl, hb4⟩
  have HB4 := Lib.hid hb4
  clear hb4
  go_wp2_with fail
  go_ret
  obtain ⟨P', hP1, hP2⟩ := HP3.out
  have hb3s : base ≤ w3.heap.size := Nat.le_trans (Nat.le_trans hbs hs2) HB3.out.size
  exact ⟨rfl, ⟨P', HC3.out.below HB4.out, hP1.below HB4.out, hP2⟩, ((HB1.out.trans HB2.out).trans HB3.out).trans (Below.mono HB4.out hb3s)⟩
end Go.Proofs.Ytejjnhgiijhglaa.rclkw
