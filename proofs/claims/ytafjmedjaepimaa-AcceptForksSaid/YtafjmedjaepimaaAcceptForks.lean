/-
  AcceptForks: a fork is alike, and neither shows what is done to the other; what it has is loaded again.
-/
import Derived.Test.YtafjmedjaepimaaAccN
import Derived.Test.YtafjmedjaepimaaChecked
import Derived.Test.YtafjmedjaepimaaRows
import Derived.Deep.CutBlock
import Derived.Deep.RegionHeld3
namespace Go.Proofs.Ytafjmedjaepimaa.acceptForks
open Go.ChangeShapes Go.WideShapes Go.ChangeAt Go.RowKit Go.Joins
open Go.Proofs.Ytafjmedjaepimaa.kit Go.Proofs.Ytafjmedjaepimaa.mapkit Go.Proofs.Ytafjmedjaepimaa.byt Go.Proofs.Ytafjmedjaepimaa.own Go.Proofs.Ytafjmedjaepimaa.accd Go.Proofs.Ytafjmedjaepimaa.acca Go.Proofs.Ytafjmedjaepimaa.accb Go.Proofs.Ytafjmedjaepimaa.acck Go.Proofs.Ytafjmedjaepimaa.acce Go.Proofs.Ytafjmedjaepimaa.accf Go.Proofs.Ytafjmedjaepimaa.accg Go.Proofs.Ytafjmedjaepimaa.acch Go.Proofs.Ytafjmedjaepimaa.acci Go.Proofs.Ytafjmedjaepimaa.accj Go.Proofs.Ytafjmedjaepimaa.accr Go.Proofs.Ytafjmedjaepimaa.accl Go.Proofs.Ytafjmedjaepimaa.accm Go.Proofs.Ytafjmedjaepimaa.accn
set_option linter.unusedVariables false
set_option linter.unusedSimpArgs false
set_option maxHeartbeats 4000000
set_option maxRecDepth 100000

theorem neBallot (w : World) (a b c d : Int) : (binOp .neq 28 (.agg #[.int .i64 a, .int .i64 b]) (.agg #[.int .i64 c, .int .i64 d])).run Try.prog w = .ok (.bool (!(a == c && b == d))) w := by
  cases h : (a == c) <;> cases h2 : (b == d) <;> go_simp
theorem first_b (w : World) (base b mb : Nat) (A : AS) (h : AccIs w base b mb A) : Calls Try.prog 18 #[.pointer (some ⟨b, 0, none⟩)] w fun e w' => e = .returned (.int .i64 A.first) ∧ Below w.heap.size w w' := by
  refine (first_ok w base b mb A h).mono ?_
  rintro e w' ⟨rfl, rfl⟩
  exact ⟨rfl, Below.refl _ _⟩
/-- Nothing that may not be is promised or told. -/
def Real (A : AS) : Prop := (A.r = 0 ∧ A.n = 0 ∨ realB A.r A.n = true) ∧ ∀ v ∈ A.vs, realB v.r v.n = true
theorem real_op {A : AS} (h : Real A) (o : OpV) : Real (opS A o) := by
  rw [opS]
  split
  · rw [prepS]
    split
    · rename_i hE
      exact ⟨.inr (prep0 hE).1, h.2⟩
    · exact h
  · split
    · rw [forgetS]
      split
      · exact ⟨h.1, fun v hv => h.2 v (mem_from4.1 hv).1⟩
      · exact h
    · rw [accS]
      split
      · rename_i hE
        refine ⟨.inr (acc0 hE).1, fun v hv => ?_⟩
        rcases mem_put4.1 hv with rfl | ⟨hv, -⟩
        · exact (acc0 hE).1
        · exact h.2 v hv
      · exact h
theorem real_st {A : AS} (h : Real A) : ∀ l : List OpV, Real (stOf A l) := by
  intro l
  induction l generalizing A with
  | nil => exact h
  | cons o l ih => exact ih (real_op h o)
theorem real_start : Real startS := ⟨.inl ⟨rfl, rfl⟩, by simp [startS]⟩
/-- What an acceptor has may be loaded. -/
theorem okL_of {w : World} {base b mb : Nat} {A : AS} (h : AccIs w base b mb A) (hr : Real A) (hb : Bal A) : okL A.r A.n A.first A.vs := by
  have hone := is_one h
  have hord := is_ord h
  have hrng := is_rng h
  have hfit := is_fit h
  refine ⟨⟨hone.1, hone.2, hr.1⟩, fun k hk => ?_⟩
  have hm : A.vs[k] ∈ A.vs := List.getElem_mem hk
  refine ⟨?_, (hrng _ hm).2, hr.2 _ hm, hb _ hm, hfit _ hm⟩
  cases k with
  | zero => exact (hrng _ hm).1
  | succ k =>
    rw [lst_succ A.first A.vs k (by omega)]
    have := List.pairwise_iff_getElem.1 hord k (k + 1) (by omega) hk (by omega)
    omega
/-- While the fork turns. -/
structure Bh (w : World) (b mb pb : Nat) (r n : Int) (v : Value) (xs : List Vt) (W : World) : Prop where
  acc : ∃ F, AccIs W w.heap.size b mb F
  below : Below w.heap.size w W
  row : RowV W v xs
  box : W.heap[pb]? = some (.cells #[.int .i64 r, .int .i64 n] 28 (0, 0))
theorem Bh.old {w : World} {b mb pb : Nat} {r n : Int} {v : Value} {xs : List Vt} {W W' : World} (h : Bh w b mb pb r n v xs W) (hb : Below W.heap.size W W') : Bh w b mb pb r n v xs W' := by
  obtain ⟨⟨F, hF⟩, h2, h3, h4⟩ := h
  exact ⟨⟨F, hF.below hb⟩, below_step h2 hb, h3.below hb, hp_step h4 hb⟩
theorem Bh.keep {w : World} {b mb pb : Nat} {r n : Int} {v : Value} {xs : List Vt} {W W' : World} {F F' : AS} (h : Bh w b mb pb r n v xs W) (hF : AccIs W w.heap.size b mb F) (hbb : w.heap.size ≤ b) (hmb : w.heap.size ≤ mb) (h2 : AccIs W' w.heap.size b mb F') (hk : Keep (fun k => k = b ∨ k = mb) W W') : Bh w b mb pb r n v xs W' := by
  refine ⟨⟨F', h2⟩, h.below.trans (keep_below hk h.below.size hbb hmb), RowV.keep h.row hF hk, (hk.block pb (kit.blk h.box).2.2 (fun hx => ?_)).trans h.box⟩
  obtain ⟨vs, h1, -⟩ := hF
  rcases hx with hx | hx
  · have e := h1.blk
    rw [← hx, h.box] at e
    simp at e
  · obtain ⟨es, cl, hm⟩ := h1.map.obj
    rw [← hx, h.box] at hm
    simp at hm
/-- A list of votes that is being overwritten: what is left of it. -/
structure Scr (N : Nat) (gr : Nat) (qs : List Vt) (W : World) : Prop where
  lo : N ≤ gr
  row : ∃ cs : Array Value, W.heap[gr]? = some (.cells cs 38 (0, 0)) ∧ ∀ i (hi : i < qs.length), cs[i * 4 + 3]? = some (.slice qs[i].a qs[i].l.length qs[i].c) ∧ i * 4 < cs.size
  body : ∀ x ∈ qs, 0 < x.l.length → ∃ g, ∃ cs : Array Value, x.a = some ⟨g, 0, none⟩ ∧ N ≤ g ∧ W.heap[g]? = some (.cells cs 5 (0, 0)) ∧ x.l.length ≤ cs.size
theorem Scr.body_put {N gr : Nat} {qs : List Vt} {W : World} (h : Scr N gr qs W) {g : Nat} {cs : Array Value} (hg : W.heap[g]? = some (.cells cs 5 (0, 0))) (k : Nat) (v : Value) : Scr N gr qs (W.setCell ⟨g, k, none⟩ v) := by
  obtain ⟨rc, hr, hrc⟩ := h.row
  have hne : gr ≠ g := by
    intro e
    rw [e, hg] at hr
    simp at hr
  refine ⟨h.lo, ⟨rc, (hp_set_ne hne).trans hr, hrc⟩, fun x hx hl => ?_⟩
  obtain ⟨g', cs', h1, h2, h3, h4⟩ := h.body x hx hl
  by_cases e : g' = g
  · subst e
    exact ⟨g', _, h1, h2, hp_set h3 k v, by simpa using h4⟩
  · exact ⟨g', cs', h1, h2, (hp_set_ne e).trans h3, h4⟩
theorem Scr.row_put {N gr : Nat} {qs : List Vt} {W : World} (h : Scr N gr qs W) (i : Nat) (v : Value) : Scr N gr qs (W.setCell ⟨gr, i * 4, none⟩ v) := by
  obtain ⟨rc, hr, hrc⟩ := h.row
  refine ⟨h.lo, ⟨_, hp_set hr (i * 4) v, fun j hj => ?_⟩, fun x hx hl => ?_⟩
  · obtain ⟨h1, h2⟩ := hrc j hj
    refine ⟨?_, by simpa using h2⟩
    rw [Array.getElem?_setIfInBounds_ne (by omega)]
    exact h1
  · obtain ⟨g', cs', h1, h2, h3, h4⟩ := h.body x hx hl
    have hne : g' ≠ gr := by
      intro e
      rw [e, hr] at h3
      simp at h3
    exact ⟨g', cs', h1, h2, (hp_set_ne hne).trans h3, h4⟩
theorem Scr.below {N gr : Nat} {qs : List Vt} {W W' : World} (h : Scr N gr qs W) (hb : Below W.heap.size W W') : Scr N gr qs W' := by
  obtain ⟨rc, hr, hrc⟩ := h.row
  refine ⟨h.lo, ⟨rc, hp_step hr hb, hrc⟩, fun x hx hl => ?_⟩
  obtain ⟨g', cs', h1, h2, h3, h4⟩ := h.body x hx hl
  exact ⟨g', cs', h1, h2, hp_step h3 hb, h4⟩
theorem scr_of {w w' : World} {a : Option Addr} {c : Nat} {qs : List Vt} (h : w'.ownsRow w.heap.size 38 4 (.slice a qs.length c) qs.length (vcells qs)) (hb : ∀ x ∈ qs, accd.Body w' w.heap.size x) (hq : 0 < qs.length) : ∃ g, a = some ⟨g, 0, none⟩ ∧ Scr w.heap.size g qs w' := by
  obtain ⟨g, rfl⟩ := own_ptr h hq
  obtain ⟨cur, hcur⟩ := own_heap h g rfl
  refine ⟨g, rfl, (own_from h g rfl).1, ⟨cur, hcur, fun i hi => ?_⟩, fun x hx hl => ?_⟩
  · obtain ⟨h0, -, -, h3⟩ := vt_cells h hi
    have hb := kit.blk hcur
    rw [hb.1] at h0 h3
    exact ⟨h3, (Array.getElem?_eq_some_iff.1 h0).1⟩
  · have hx := hb x hx
    obtain ⟨g', hg'⟩ := own_ptr hx hl
    obtain ⟨cur', hcur'⟩ := own_heap hx g' hg'
    refine ⟨g', cur', hg', (own_from hx g' hg').1, hcur', ?_⟩
    have hL := (body_lie hx).1
    rcases hL with h0 | ⟨g2, off, e2, hz2, hc2⟩
    · have h1 := congrArg List.length h0
      rw [bcells_len] at h1
      simp only [List.length_nil] at h1
      omega
    · rw [hg'] at e2
      simp only [Option.some.injEq, Addr.mk.injEq, and_true] at e2
      obtain ⟨rfl, rfl⟩ := e2
      have h9 := hc2 (x.l.length - 1) (by rw [bcells_len]; omega)
      rw [(kit.blk hcur').1, bcells_get (by omega)] at h9
      have := (Array.getElem?_eq_some_iff.1 h9).1
      omega

theorem forks_ok (w : World) (a0 : Option Addr) (l0 : List OpV) (cap0 : Nat) (hl0 : l0.length ≤ 9223372036854775807) (hat0 : RowsAt w a0 5 (l0.map ocells)) (hok0 : ∀ k (hk : k < l0.length), GoodO w (l0[k]))
    (a : Option Addr) (l : List OpV) (cap : Nat) (hl : l.length ≤ 9223372036854775807) (hat : RowsAt w a 5 (l.map ocells)) (hok : ∀ k (hk : k < l.length), GoodO w (l[k])) :
    Calls Try.prog 9 #[.slice a0 l0.length cap0, .slice a l.length cap] w fun e w' => e = .returned (.bool true) ∧ Below w.heap.size w w' := by
  have HR := Lib.hid (fun (wr : World) (hb : Below w.heap.size w wr) k hk => row_op (hat.below hb) k hk)
  have HOK := Lib.hid (fun (wr : World) (hb : Below w.heap.size w wr) k hk => (hok k hk).below hb)
  have HRAN := Lib.hid (ran_ok w a0 l0 cap0 hl0 hat0 hok0)
  have HBAL := Lib.hid (bal_st bal_start l0)
  have HREA := Lib.hid (real_st real_start l0)
  obtain ⟨A, hA⟩ : ∃ A, A = stOf startS l0 := ⟨_, rfl⟩
  rw [← hA] at HRAN HBAL HREA
  have hqe : ∀ w, (binOp .neq 28 (.agg #[.int .i64 A.r, .int .i64 A.n]) (.agg #[.int .i64 A.r, .int .i64 A.n])).run Try.prog w = .ok (.bool false) w := by
    intro w
    have h := neBallot w A.r A.n A.r A.n
    simpa only [beq_self_eq_true, Bool.and_self, Bool.not_true] using h
  clear hat hok hat0 hok0 hA hl0
  go_enter Try.func9, Try.ntmps9
  go_wp2_with fail
  refine HRAN.out.mono ?_; rintro e w1 ⟨rfl, hA1, hb1⟩
  have HA1 := Lib.hid hA1
  have HB1 := Lib.hid hb1
  clear hA1 hb1 HRAN
  go_wp2_with fail
  refine (awake_any w1).mono ?_; rintro e w2 ⟨rfl, hb2⟩
  have HB2 := Lib.hid (below_step HB1.out hb2)
  obtain ⟨b, hbdef⟩ : ∃ b, b = w.heap.size + 1 := ⟨_, rfl⟩
  obtain ⟨mb, hmdef⟩ : ∃ mb, mb = w.heap.size := ⟨_, rfl⟩
  have HA2 : Hid (AccIs w2 w.heap.size b mb A) := by rw [hbdef, hmdef]; exact AccIs.below HA1.out hb2
  rw [← hbdef]
  have HFO := Lib.hid (fork_ok w2 _ _ _ _ HA2.out)
  clear hb2 HA1 HB1 hbdef hmdef
  go_wp2_with fail
  refine HFO.out.mono ?_; rintro e w3 ⟨b1, mb1, rfl, hbb1, hmb1, hF3, hb3⟩
  have HF3 := Lib.hid hF3
  have HB3 := Lib.hid hb3
  have HA3 := Lib.hid (AccIs.below HA2.out hb3)
  have HV3 := Lib.hid (votes_row w3 _ _ _ _ HA3.out)
  clear hF3 hb3 HFO
  go_wp2_with fail
  refine HV3.out.mono ?_; rintro e w4 ⟨ap, cp, ps, rfl, hrow, hps, hb4⟩
  have HF4 := Lib.hid (AccIs.below HF3.out hb4)
  have HB4 := Lib.hid (below_step HB3.out hb4)
  have HA4 := Lib.hid (AccIs.below HA3.out hb4)
  have HR4 := Lib.hid hrow
  have HPS := Lib.hid hps
  have HP4 := Lib.hid (promised_ok w4 _ _ _ _ HA4.out)
  clear hb4 hrow hps HV3 HF3 HB3 HA3
  go_wp2_with fail
  refine HP4.out.mono ?_; rintro e w5 ⟨rfl, hb5⟩
  have HF5 := Lib.hid (AccIs.below HF4.out hb5)
  have HB5 := Lib.hid (below_step HB4.out hb5)
  have HA5 := Lib.hid (AccIs.below HA4.out hb5)
  have HR5 := Lib.hid (HR4.out.below hb5)
  have HFI := Lib.hid (first_ok w5 _ _ _ _ HA5.out)
  clear hb5 HP4 HF4 HB4 HA4 HR4
  go_wp2_with fail
  refine HFI.out.mono ?_; rintro e w6 ⟨rfl, rfl⟩
  obtain ⟨w6, hw6⟩ : ∃ w6, w6 = w5.alloc (.cells #[.int .i64 A.r, .int .i64 A.n] 28) := ⟨_, rfl⟩
  have hb6 : Below w5.heap.size w5 w6 := by rw [hw6]; exact below_new1 _ _
  have hn6 : w6.heap[w5.heap.size]? = some (.cells #[.int .i64 A.r, .int .i64 A.n] 28 (0, 0)) := by rw [hw6]; exact hp_alloc_new _ _
  obtain ⟨pb, hpb⟩ : ∃ pb, pb = w5.heap.size := ⟨_, rfl⟩
  rw [← hpb] at hn6
  have HF6 := Lib.hid (AccIs.below HF5.out hb6)
  have HB6 := Lib.hid (below_step HB5.out hb6)
  have HA6 := Lib.hid (AccIs.below HA5.out hb6)
  have HR6 := Lib.hid (HR5.out.below hb6)
  have HN6 := Lib.hid hn6
  have HW6 := Lib.hid hw6
  have HPB := Lib.hid hpb
  obtain ⟨x0, x1, -, -, xz⟩ := blk2 hn6
  have hsl : ∀ v ∈ ps, -9223372036854775808 ≤ v.s ∧ v.s ≤ 9223372036854775807 := by
    intro v hv
    have h1 := is_rng HA6.out (lv v) (by rw [← HPS.out]; exact List.mem_map_of_mem hv)
    have h2 := is_one HA6.out
    simp only [lv] at h1
    omega
  have hOKL := okL_of HA6.out HREA.out HBAL.out
  have HLD := Lib.hid (load_yes w6 A.r A.n A.first ap cp ps HR6.out hOKL.1 hsl)
  have HOKL := Lib.hid hOKL
  clear hb6 hn6 hw6 hpb hsl hOKL HFI HF5 HB5 HA5 HR5
  go_upto_region 6 with fail
  rw [← HW6.out, ← HPB.out]
  go_wp2_with fail
  refine HLD.out.mono ?_; rintro e w7 ⟨hb7, hh7⟩
  obtain ⟨b2, mb2, rfl, -, -, hG7⟩ : ∃ b2 mb2, e = .returned (.tuple #[.pointer (some ⟨b2, 0, none⟩), .int .i64 0]) ∧ w6.heap.size ≤ b2 ∧ w6.heap.size ≤ mb2 ∧ AccIs w7 w6.heap.size b2 mb2 A := by
    rcases hh7 with ⟨-, b2, mb2, h1, h2, h3, h4⟩ | ⟨h1, -⟩
    · rw [HPS.out] at h4
      exact ⟨b2, mb2, h1, h2, h3, h4⟩
    · rw [HPS.out] at h1
      exact absurd HOKL.out h1
  have HF7 := Lib.hid (AccIs.below HF6.out hb7)
  have HB7 := Lib.hid (below_step HB6.out hb7)
  have HG7 := Lib.hid hG7
  have HR7 := Lib.hid (HR6.out.below hb7)
  have HN7 := Lib.hid (hp_step HN6.out hb7)
  obtain ⟨x0, x1, -, -, xz⟩ := blk2 HN7.out
  clear hb7 hh7 hG7 HLD HF6 HB6 HA6 HR6 HN6 HW6 HPB
  go_wp2_with fail
  have hStab : ∀ Wx Wy : World, Below Wx.heap.size Wx Wy → (Wx.cell? ⟨pb, 0, none⟩ = some (.int .i64 A.r) ∧ Wx.cell? ⟨pb, 1, none⟩ = some (.int .i64 A.n) ∧ Below w7.heap.size w7 Wx) → (Wy.cell? ⟨pb, 0, none⟩ = some (.int .i64 A.r) ∧ Wy.cell? ⟨pb, 1, none⟩ = some (.int .i64 A.n) ∧ Below w7.heap.size w7 Wy) := by
    intro Wx Wy kk hs
    obtain ⟨s0, s1, s2⟩ := hs
    exact ⟨cell_step s0 kk, cell_step s1 kk, below_step s2 kk⟩
  have HhStab := Lib.hid hStab
  clear hStab
  have lV1 : Hid (∀ Wx : World, (Wx.cell? ⟨pb, 0, none⟩ = some (.int .i64 A.r) ∧ Wx.cell? ⟨pb, 1, none⟩ = some (.int .i64 A.n) ∧ Below w7.heap.size w7 Wx) → Calls Try.prog 16 #[.pointer (some ⟨b1, 0, none⟩)] Wx fun e w' => ∃ a c xs, e = .returned (.slice a xs.length c) ∧ RowV w' (.slice a xs.length c) xs ∧ xs.map lv = A.vs ∧ Below Wx.heap.size Wx w') := by
    intro Wx hs
    obtain ⟨s0, s1, s2⟩ := hs
    have hK := s2
    exact votes_row _ _ _ _ _ (AccIs.below HF7.out hK)
  have lV2 : Hid (∀ Wx : World, (Wx.cell? ⟨pb, 0, none⟩ = some (.int .i64 A.r) ∧ Wx.cell? ⟨pb, 1, none⟩ = some (.int .i64 A.n) ∧ Below w7.heap.size w7 Wx) → Calls Try.prog 16 #[.pointer (some ⟨b2, 0, none⟩)] Wx fun e w' => ∃ a c xs, e = .returned (.slice a xs.length c) ∧ RowV w' (.slice a xs.length c) xs ∧ xs.map lv = A.vs ∧ Below Wx.heap.size Wx w') := by
    intro Wx hs
    obtain ⟨s0, s1, s2⟩ := hs
    have hK := s2
    exact votes_row _ _ _ _ _ (AccIs.below HG7.out hK)
  have lP : Hid (∀ Wx : World, (Wx.cell? ⟨pb, 0, none⟩ = some (.int .i64 A.r) ∧ Wx.cell? ⟨pb, 1, none⟩ = some (.int .i64 A.n) ∧ Below w7.heap.size w7 Wx) → Calls Try.prog 21 #[.pointer (some ⟨b1, 0, none⟩)] Wx fun e w' => e = .returned (.agg #[.int .i64 A.r, .int .i64 A.n]) ∧ Below Wx.heap.size Wx w') := by
    intro Wx hs
    obtain ⟨s0, s1, s2⟩ := hs
    have hK := s2
    exact promised_ok _ _ _ _ _ (AccIs.below HF7.out hK)
  have lF : Hid (∀ Wx : World, (Wx.cell? ⟨pb, 0, none⟩ = some (.int .i64 A.r) ∧ Wx.cell? ⟨pb, 1, none⟩ = some (.int .i64 A.n) ∧ Below w7.heap.size w7 Wx) → Calls Try.prog 18 #[.pointer (some ⟨b2, 0, none⟩)] Wx fun e w' => e = .returned (.int .i64 A.first) ∧ Below Wx.heap.size Wx w') := by
    intro Wx hs
    obtain ⟨s0, s1, s2⟩ := hs
    have hK := s2
    exact first_b _ _ _ _ _ (AccIs.below HG7.out hK)
  have lR : Hid (∀ Wx : World, (Wx.cell? ⟨pb, 0, none⟩ = some (.int .i64 A.r) ∧ Wx.cell? ⟨pb, 1, none⟩ = some (.int .i64 A.n) ∧ Below w7.heap.size w7 Wx) → RowV Wx (.slice ap ps.length cp) ps) := by
    intro Wx hs
    obtain ⟨s0, s1, s2⟩ := hs
    have hK := s2
    exact HR7.out.below hK
  go_region_held3 (fun w' => w'.cell? ⟨pb, 0, none⟩ = some (.int .i64 A.r) ∧ w'.cell? ⟨pb, 1, none⟩ = some (.int .i64 A.n) ∧ Below w7.heap.size w7 w') (first | (exact ⟨x0, x1, below_drewN (Below.refl _ _) 1⟩) | (refine HhStab.out _ _ hbn ?_; assumption)) (first | (go_at_call 21; refine (lP.out _ (by assumption)).mono ?_; rintro e wn ⟨rfl, hbn⟩) | (go_at_call 18; refine (lF.out _ (by assumption)).mono ?_; rintro e wn ⟨rfl, hbn⟩) | (go_at_call 16; with_reducible refine (lV1.out _ (by assumption)).mono ?_; rintro e wn ⟨av, cv, vs9, rfl, hrv9, hvs9, hbn⟩; have HRV9 := Lib.hid hrv9; have HVS9 := Lib.hid hvs9; clear hrv9 hvs9) | (go_at_call 16; with_reducible refine (lV2.out _ (by assumption)).mono ?_; rintro e wn ⟨av, cv, vs9, rfl, hrv9, hvs9, hbn⟩; have HRV9 := Lib.hid hrv9; have HVS9 := Lib.hid hvs9; clear hrv9 hvs9) | (go_at_call 22; refine (votes_eq _ _ _ _ _ HRV9.out (lR.out _ (by assumption)) (HVS9.out.trans HPS.out.symm)).mono ?_; rintro e wn ⟨rfl, hbn⟩))
  have hS7 : wn.cell? ⟨pb, 0, none⟩ = some (.int .i64 A.r) ∧ wn.cell? ⟨pb, 1, none⟩ = some (.int .i64 A.n) ∧ Below w7.heap.size w7 wn := by assumption
  obtain ⟨x0, x1, hb8⟩ := hS7
  have HBH : Hid (Bh w2 b1 mb1 pb A.r A.n (.slice ap ps.length cp) ps wn) := ⟨⟨A, AccIs.below HF7.out hb8⟩, below_step HB7.out hb8, HR7.out.below hb8, hp_step HN7.out hb8⟩
  clear hb8 HF7 HB7 HG7 HR7 HN7 x0 x1
  go_wp2_with fail
  go_loopw [12] (fun i wr => ∃ k : Nat, k ≤ l.length ∧ i = .int .i64 k ∧ Hid (Bh w2 b1 mb1 pb A.r A.n (.slice ap ps.length cp) ps wr)) (fun i _ => l.length - (intOf i).toNat)
  case atStart => exact ⟨0, Nat.zero_le _, rfl, HBH⟩
  case round =>
    obtain ⟨k, hk, rfl, hB⟩ := hrel
    by_cases hlt : k < l.length
    · have hBw := Lib.hid (HB2.out.trans (Below.mono hB.out.below HB2.out.size))
      obtain ⟨g, off, rfl, hgz, r0, r1, r2, r3, r4⟩ := HR.out wr hBw.out k hlt
      have HG := Lib.hid (HOK.out wr hBw.out k hlt)
      obtain ⟨o, ho⟩ : ∃ o, o = l[k] := ⟨_, rfl⟩
      rw [← ho] at r0 r1 r2 r3 r4 HG
      obtain ⟨F, hF⟩ := hB.out.acc
      have HF := Lib.hid hF
      clear ho hF
      by_cases hk2 : o.kind = 2
      · have e2 : (o.kind == 2) = true := by simp [hk2]
        have HC := Lib.hid (forget_ok wr _ b1 mb1 F o.s HF.out)
        clear hk2
        go_wp2_with fail
        refine HC.out.mono ?_; rintro e w7 ⟨rfl, hl7, hk7⟩
        have HB4 := Lib.hid (hB.out.keep HF.out hbb1 hmb1 hl7 hk7)
        clear hl7 hk7 HC
        go_wp2_with fail
        go_roundw
        case rel => exact ⟨k + 1, by omega, by go_num, HB4⟩
        case measure => simp [intOf]; omega
      · have e2 : (o.kind == 2) = false := by simpa using hk2
        have HV := Lib.hid (vote_ok wr o)
        have HAC := Lib.hid (fun wx (hb : Below wr.heap.size wr wx) => accept_ok wx w2.heap.size b1 mb1 F o.vt (AccIs.below HF.out hb) (Nat.le_trans hB.out.below.size hb.size) (HG.out.below hb).rd HG.out.slot.1 HG.out.slot.2)
        go_wp2_with fail
        refine HV.out.mono ?_; rintro e w7 ⟨rfl, hb7⟩
        have HC := Lib.hid (HAC.out w7 hb7)
        have HBE7 := Lib.hid (hB.out.old hb7)
        have HF7 := Lib.hid (AccIs.below HF.out hb7)
        simp only [Vt.val] at HC ⊢
        clear hb7 HAC HV
        go_wp2_with fail
        refine HC.out.mono ?_; rintro e w8 ⟨rfl, hl8, hk8⟩
        have HB4 := Lib.hid (HBE7.out.keep HF7.out hbb1 hmb1 hl8 hk8)
        clear hl8 hk8 HC
        go_wp2_with fail
        go_roundw
        case rel => exact ⟨k + 1, by omega, by go_num, HB4⟩
        case measure => simp [intOf]; omega
    · obtain rfl : k = l.length := by omega
      have HA9 := Lib.hid (AccIs.below HA2.out hB.out.below)
      have HR9 := Lib.hid hB.out.row
      have HN9 := Lib.hid hB.out.box
      have HBW9 := Lib.hid (HB2.out.trans (Below.mono hB.out.below HB2.out.size))
      have HV9 := Lib.hid (votes_ok wr _ _ _ _ HA9.out)
      have hlen9 := is_len HA9.out
      clear hB HR HOK
      go_wp2_with fail
      refine HV9.out.mono ?_; rintro e w10 ⟨tv, rfl, ht, hb10⟩
      obtain ⟨qs0, hq0, -, -⟩ := told_row ht (is_fit HA9.out)
      obtain ⟨aq, cq, qs, rfl, hqs, hqrow, hqbody⟩ := ht
      have hql : qs.length ≤ 16 := by have h := congrArg List.length hqs; rw [List.length_map] at h; omega
      have HQ10 : Hid (RowV w10 (.slice aq qs.length cq) qs) := ⟨⟨_, aq, cq, rfl, hqrow⟩, fun x hx => body_rd (hqbody x hx) (by
        have h := is_fit HA9.out (lv x) (by rw [← hqs]; exact List.mem_map_of_mem hx)
        simp only [lv] at h
        omega)⟩
      have HQS := Lib.hid hqs
      have HA10 := Lib.hid (AccIs.below HA9.out hb10)
      have HR10 := Lib.hid (HR9.out.below hb10)
      have HN10 := Lib.hid (hp_step HN9.out hb10)
      have HB10 := Lib.hid hb10
      have HSC := Lib.hid (fun hq => scr_of hqrow hqbody hq)
      obtain ⟨x0, x1, -, -, xz⟩ := blk2 HN10.out
      clear hb10 hqs hqrow hqbody hq0 HV9
      go_wp2_with fail
      have hStab : ∀ Wx Wy : World, Below Wx.heap.size Wx Wy → (Wx.cell? ⟨pb, 0, none⟩ = some (.int .i64 A.r) ∧ Wx.cell? ⟨pb, 1, none⟩ = some (.int .i64 A.n) ∧ Below w10.heap.size w10 Wx) → (Wy.cell? ⟨pb, 0, none⟩ = some (.int .i64 A.r) ∧ Wy.cell? ⟨pb, 1, none⟩ = some (.int .i64 A.n) ∧ Below w10.heap.size w10 Wy) := by
        intro Wx Wy kk hs
        obtain ⟨s0, s1, s2⟩ := hs
        exact ⟨cell_step s0 kk, cell_step s1 kk, below_step s2 kk⟩
      have HhStab := Lib.hid hStab
      clear hStab
      have lP : Hid (∀ Wx : World, (Wx.cell? ⟨pb, 0, none⟩ = some (.int .i64 A.r) ∧ Wx.cell? ⟨pb, 1, none⟩ = some (.int .i64 A.n) ∧ Below w10.heap.size w10 Wx) → Calls Try.prog 21 #[.pointer (some ⟨b, 0, none⟩)] Wx fun e w' => e = .returned (.agg #[.int .i64 A.r, .int .i64 A.n]) ∧ Below Wx.heap.size Wx w') := by
        intro Wx hs
        obtain ⟨s0, s1, s2⟩ := hs
        have hK := s2
        exact promised_ok _ _ _ _ _ (AccIs.below HA10.out hK)
      have lF : Hid (∀ Wx : World, (Wx.cell? ⟨pb, 0, none⟩ = some (.int .i64 A.r) ∧ Wx.cell? ⟨pb, 1, none⟩ = some (.int .i64 A.n) ∧ Below w10.heap.size w10 Wx) → Calls Try.prog 18 #[.pointer (some ⟨b, 0, none⟩)] Wx fun e w' => e = .returned (.int .i64 A.first) ∧ Below Wx.heap.size Wx w') := by
        intro Wx hs
        obtain ⟨s0, s1, s2⟩ := hs
        have hK := s2
        exact first_b _ _ _ _ _ (AccIs.below HA10.out hK)
      have lR : Hid (∀ Wx : World, (Wx.cell? ⟨pb, 0, none⟩ = some (.int .i64 A.r) ∧ Wx.cell? ⟨pb, 1, none⟩ = some (.int .i64 A.n) ∧ Below w10.heap.size w10 Wx) → RowV Wx (.slice ap ps.length cp) ps) := by
        intro Wx hs
        obtain ⟨s0, s1, s2⟩ := hs
        have hK := s2
        exact HR10.out.below hK
      have lQ : Hid (∀ Wx : World, (Wx.cell? ⟨pb, 0, none⟩ = some (.int .i64 A.r) ∧ Wx.cell? ⟨pb, 1, none⟩ = some (.int .i64 A.n) ∧ Below w10.heap.size w10 Wx) → RowV Wx (.slice aq qs.length cq) qs) := by
        intro Wx hs
        obtain ⟨s0, s1, s2⟩ := hs
        have hK := s2
        exact HQ10.out.below hK
      go_region_held3 (fun w' => w'.cell? ⟨pb, 0, none⟩ = some (.int .i64 A.r) ∧ w'.cell? ⟨pb, 1, none⟩ = some (.int .i64 A.n) ∧ Below w10.heap.size w10 w') (first | (exact ⟨x0, x1, below_drewN (Below.refl _ _) 1⟩) | (refine HhStab.out _ _ hbn ?_; assumption)) (first | (go_at_call 21; refine ((lP.out _ (by assumption))).mono ?_; rintro e wn ⟨rfl, hbn⟩) | (go_at_call 18; refine ((lF.out _ (by assumption))).mono ?_; rintro e wn ⟨rfl, hbn⟩) | (go_at_call 22; refine (votes_eq _ _ _ _ _ (lQ.out _ (by assumption)) (lR.out _ (by assumption)) (HQS.out.trans HPS.out.symm)).mono ?_; rintro e wn ⟨rfl, hbn⟩))
      have hS16 : wn.cell? ⟨pb, 0, none⟩ = some (.int .i64 A.r) ∧ wn.cell? ⟨pb, 1, none⟩ = some (.int .i64 A.n) ∧ Below w10.heap.size w10 wn := by assumption
      obtain ⟨x0, x1, hb11⟩ := hS16
      have HSC11 := Lib.hid (fun hq => (HSC.out hq).imp fun g hg => (⟨hg.1, hg.2.below hb11⟩ : aq = some ⟨g, 0, none⟩ ∧ Scr wr.heap.size g qs wn))
      have HB11 := Lib.hid (below_step HB10.out hb11)
      clear hb11 x0 x1 HQ10 HA10 HR10 HN10 HB10 HSC
      have HSC12 : Hid (0 < qs.length → ∃ g, aq = some ⟨g, 0, none⟩ ∧ Scr wr.heap.size g qs wn) := fun hq => HSC11.out hq
      clear HSC11
      go_wp2_with fail
      go_loopw [14] (fun i wz => ∃ m : Nat, m ≤ qs.length ∧ i = .int .i64 m ∧ Hid (Below wr.heap.size wr wz) ∧ Hid (0 < qs.length → ∃ g, aq = some ⟨g, 0, none⟩ ∧ Scr wr.heap.size g qs wz)) (fun i _ => qs.length - (intOf i).toNat)
      case atStart => exact ⟨0, Nat.zero_le _, rfl, HB11, HSC12⟩
      case round =>
        obtain ⟨wo, rfl⟩ : ∃ wo : World, wo = wr := ⟨_, rfl⟩
        obtain ⟨m, hm, rfl, HBZ, HSZ⟩ := hrel
        by_cases hml : m < qs.length
        · obtain ⟨g, rfl, hsc⟩ := HSZ.out (by omega)
          have HSC := Lib.hid hsc
          obtain ⟨x, hx⟩ : ∃ x, x = qs[m] := ⟨_, rfl⟩
          have HROWC : Hid (∀ wx, Scr wr.heap.size g qs wx → wx.cell? ⟨g, m * 4 + 3, none⟩ = some (.slice x.a x.l.length x.c) ∧ (∃ v, wx.cell? ⟨g, m * 4, none⟩ = some v) ∧ wx.frozen? ⟨g, m * 4, none⟩ = false ∧ g < wx.heap.size) := by
            intro wx h
            obtain ⟨rc, hr, hrc⟩ := h.row
            obtain ⟨h1, h2⟩ := hrc m hml
            have hb := kit.blk hr
            refine ⟨by rw [hb.1, h1, hx], ⟨rc[m * 4], by rw [hb.1]; exact Array.getElem?_eq_getElem h2⟩, hb.2.1 _, hb.2.2⟩
          have HBODY : Hid (∀ wx, Scr wr.heap.size g qs wx → 0 < x.l.length → ∃ gb, ∃ cs : Array Value, x.a = some ⟨gb, 0, none⟩ ∧ wr.heap.size ≤ gb ∧ wx.heap[gb]? = some (.cells cs 5 (0, 0)) ∧ x.l.length ≤ cs.size) := by
            intro wx h
            rw [hx]
            exact h.body _ (List.getElem_mem hml)
          have hxcap : x.l.length ≤ 2048 := by
            have h := is_fit HA9.out (lv x) (by rw [← HQS.out, hx]; exact List.mem_map_of_mem (List.getElem_mem hml))
            exact h
          clear hx hsc HSZ
          go_wp2_with fail
          go_loopw [15] (fun i wz => ∃ j : Nat, j ≤ x.l.length ∧ i = .int .i64 j ∧ Hid (Below wr.heap.size wr wz) ∧ Hid (Scr wr.heap.size g qs wz)) (fun i _ => x.l.length - (intOf i).toNat)
          case atStart => exact ⟨0, Nat.zero_le _, rfl, HBZ, HSC⟩
          case round =>
            obtain ⟨wo2, rfl⟩ : ∃ wo2 : World, wo2 = wr := ⟨_, rfl⟩
            obtain ⟨j, hj, rfl, HBJ, HSJ⟩ := hrel
            obtain ⟨q3, ⟨v0, q0⟩, f0, hgz⟩ := HROWC.out wo2 HSJ.out
            by_cases hjl : j < x.l.length
            · obtain ⟨gb, cs, hxa, hgb, hcs, hcl⟩ := HBODY.out wo2 HSJ.out (by omega)
              have hbk := kit.blk hcs
              have u0 : wo2.cell? ⟨gb, j, none⟩ = some (cs[j]'(by omega)) := by rw [hbk.1]; exact Array.getElem?_eq_getElem (by omega)
              have uf : wo2.frozen? ⟨gb, j, none⟩ = false := hbk.2.1 _
              have ugz := hbk.2.2
              have HS2 := Lib.hid (HSJ.out.body_put hcs j (.int .u8 99))
              have HB2' := Lib.hid (HBJ.out.setCell (p := ⟨gb, j, none⟩) hgb (.int .u8 99))
              rw [hxa] at q3
              clear hbk hcs hxa
              go_wp2_with fail
              go_roundw
              case rel => exact ⟨j + 1, by omega, by go_num, HB2', HS2⟩
              case measure => simp [intOf]; omega
            · obtain rfl : j = x.l.length := by omega
              have HS2 := Lib.hid (HSJ.out.row_put m (.int .i64 0))
              have HB2' := Lib.hid (HBJ.out.setCell (p := ⟨g, m * 4, none⟩) HSJ.out.lo (.int .i64 0))
              go_wp2_with fail
              go_roundw
              case rel => exact ⟨m + 1, by omega, by go_num, HB2', fun _ => ⟨g, rfl, HS2.out⟩⟩
              case measure => simp [intOf]; omega
        · obtain rfl : m = qs.length := by omega
          have HAE := Lib.hid (AccIs.below HA9.out HBZ.out)
          have HRE := Lib.hid (HR9.out.below HBZ.out)
          have HBE := Lib.hid (below_step HBW9.out HBZ.out)
          have HVE := Lib.hid (votes_row wo _ _ _ _ HAE.out)
          clear HSZ
          go_wp2_with fail
          refine HVE.out.mono ?_; rintro e w12 ⟨az, cz, zs, rfl, hzr, hzs, hb12⟩
          have HSM := Lib.hid (votes_eq w12 _ _ _ _ hzr (HRE.out.below hb12) (hzs.trans HPS.out.symm))
          have HB12 := Lib.hid (below_step HBE.out hb12)
          clear hb12 hzr hzs HVE
          go_wp2_with fail
          refine HSM.out.mono ?_; rintro e w13 ⟨rfl, hb13⟩
          have HB13 := Lib.hid (below_step HB12.out hb13)
          clear hb13 HSM
          go_wp2_with fail
          go_ret
          exact ⟨rfl, HB13.out⟩

theorem lawWalk {H : Type} (enc : TypeId × Value → H) : LawWalk enc Try.prog 9 Try.f9 (fun _ => True) := by
  intro W base args ds p hval hA hsz _
  rw [Try.params9] at hA hval hsz
  obtain ⟨v0, vs0, d0, ds0, p0, q0, hargs, rfl, rfl, h0, r0⟩ := trodAll_cons hA
  obtain ⟨v1, vs1, d1, ds1, p1, q1, rfl, rfl, rfl, h1, r1⟩ := trodAll_cons r0
  obtain ⟨rfl, rfl, rfl⟩ := trodAll_nil r1
  obtain rfl : args = #[v0, v1] := Array.toList_inj.1 hargs
  obtain ⟨a0, l0, cap0, es0, sp0, rfl, hlc0, hcm0, hn0, hat0, hd0, hel0, hsp0, hgood0⟩ := open_slice_gen 5 ocells (fun o d => GoodO W o ∧ DataO o d) Try.underlying22 (by kernel_rfl) (by omega) (fun n cs y _ h => elem_op n cs y h) (hval 0 22 v0 rfl rfl) h0
  obtain ⟨a1, l1, cap1, es1, sp1, rfl, hlc1, hcm1, hn1, hat1, hd1, hel1, hsp1, hgood1⟩ := open_slice_gen 5 ocells (fun o d => GoodO W o ∧ DataO o d) Try.underlying22 (by kernel_rfl) (by omega) (fun n cs y _ h => elem_op n cs y h) (hval 1 22 v1 rfl rfl) h1
  exact forks_ok W a0 l0 cap0 (by unfold maxLen at hcm0; omega) hat0 (fun k hk => (hgood0 k hk (by omega)).1) a1 l1 cap1 (by unfold maxLen at hcm1; omega) hat1 (fun k hk => (hgood1 k hk (by omega)).1)

theorem own : ownKnob Try.prog.godebug = none := by kernel_rfl
theorem laidOut : laidOutB Try.prog = true := by kernel_rfl

set_option maxRecDepth 100000 in
theorem lifted (os : Os) (started : os.Started) (H : Type) (enc : TypeId × Value → H) :
    ReturnsInHanded {} Try.checked os 9 .any (Rows.acceptForksSpec.pre6 enc Try.prog Try.f9 Rows.acceptForksRow.domain false) (Rows.acceptForksSpec.post enc Try.prog Try.f9 false true false false) := by
  refine returnsInHanded_of_change_sized (C := Try.checked) own started (by kernel_rfl) Try.func9
    (ChangeSpec.witness6 (enc := enc) (C := Try.checked) false ⟨#[], #[.slice none 0 0, .slice none 0 0], []⟩ 8 (by kernel_rfl) (by kernel_rfl) (by kernel_rfl) (by kernel_rfl)) ?_
  intro W base args ds gs before hval hW hcnd hsz _
  exact law_post (C := Try.checked) laidOut (fun ds h => by match ds, h with | [_, _], _ => rfl) 4 rfl Try.underlying4 rfl (by kernel_rfl) hval hW hsz trivial (lawWalk enc)

theorem proved : Rows.AcceptForksSaid :=
  OpenClaim.holds_of_wide 9 Try.f9 rfl rfl rfl rfl rfl rfl rfl ⟨rfl, rfl, rfl, rfl, rfl⟩ rfl rfl rfl rfl rfl (by kernel_rfl) Try.func9 (by kernel_rfl)
    (of_decide_eq_true (by kernel_rfl)) (by unfold Func.isWrapper; first | (rw [if_pos (by decide +kernel)]; kernel_rfl) | (rw [if_neg (by decide +kernel)]; exact ⟨rfl, rfl⟩))
    (fun os started H enc _ => lifted os started H enc)
#print axioms proved
end Go.Proofs.Ytafjmedjaepimaa.acceptForks
