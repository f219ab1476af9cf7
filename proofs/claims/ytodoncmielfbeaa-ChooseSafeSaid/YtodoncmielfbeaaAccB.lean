/-
  An acceptor's Accept.
-/
import Derived.Test.YtodoncmielfbeaaAccA
import Derived.StillTailTactics
import Derived.Deep.RegionHeld3
import Derived.WalkSpells
namespace Go.Proofs.Ytodoncmielfbeaa.accb
open Go.ChangeShapes Go.WideShapes Go.ChangeAt Go.RowKit
open Go.Proofs.Ytodoncmielfbeaa.kit Go.Proofs.Ytodoncmielfbeaa.mapkit Go.Proofs.Ytodoncmielfbeaa.byt Go.Proofs.Ytodoncmielfbeaa.own Go.Proofs.Ytodoncmielfbeaa.accd Go.Proofs.Ytodoncmielfbeaa.acca
set_option linter.unusedVariables false
set_option linter.unusedSimpArgs false
set_option maxHeartbeats 1000000
set_option maxRecDepth 100000

/-- What Accept answers. -/
def accE (r n first : Int) (v : V4) : Int :=
  if realB v.r v.n = false ∨ 2048 < v.l.length then 1 else if lessB v.r v.n r n = true then 90 else if v.s < first then 80 else if first + 16 ≤ v.s then 81 else 0
/-- What Accept leaves. -/
def Left (w' : World) (lo base b mb : Nat) (r n first : Int) (vs : List Vt) (v : Vt) : Prop :=
  if accE r n first (lv v) = 0 then ∃ v', lv v' = lv v ∧ (∀ g, v'.a = some ⟨g, 0, none⟩ → lo ≤ g) ∧ AccAt w' base b mb v.r v.n first (put vs v') else AccAt w' base b mb r n first vs

theorem copied_b (w : World) (v : Vt) (h : Rd w v) : Calls Try.prog 52 #[.agg #[.int .i64 v.s, .int .i64 v.r, .int .i64 v.n, .slice v.a v.l.length v.c]] w fun e w' => ∃ a c, e = .returned (.agg #[.int .i64 v.s, .int .i64 v.r, .int .i64 v.n, .slice a v.l.length c]) ∧ accd.Body w' w.heap.size ⟨v.s, v.r, v.n, v.l, a, c⟩ ∧ Below w.heap.size w w' := by
  refine (copied_any w v h).mono ?_
  rintro e w' ⟨v', rfl, hl, hb, hbl⟩
  obtain ⟨s, r, n, l, a, c⟩ := v'
  simp only [lv, V4.mk.injEq] at hl
  obtain ⟨rfl, rfl, rfl, rfl⟩ := hl
  exact ⟨a, c, rfl, hb, hbl⟩
/-- Bytes are no part of an acceptor. -/
theorem acc_lie {w w' : World} {base b mb : Nat} {r n first : Int} {vs : List Vt} (h : AccAt w base b mb r n first vs) (hk : Keep (fun k => k = b ∨ k = mb) w w') {a : Option Addr} {l : List Nat} (hl : Lie w a (bcells l)) : Lie w' a (bcells l) := by
  rcases hl with hl | ⟨g, off, h1, h2, h3⟩
  · exact .inl hl
  · by_cases hz : l = []
    · exact .inl (by rw [hz]; rfl)
    · have hpos : 0 < l.length := List.length_pos_iff.2 hz
      have h0 := h3 0 (by rw [bcells_len]; exact hpos)
      rw [bcells_get hpos, Nat.add_zero] at h0
      refine .inr ⟨g, off, h1, Nat.lt_of_lt_of_le h2 hk.size, fun i hi => (hk.cell (p := ⟨g, off + i, none⟩) h2 (fun hx => ?_)).trans (h3 i hi)⟩
      rcases hx with hx | hx
      · have hx : g = b := hx
        subst hx
        rw [(kit.blk h.blk).1 off] at h0
        rcases off with _ | _ | _ | _ | off <;> simp at h0
      · have hx : g = mb := hx
        subst hx
        obtain ⟨es, cl, hm⟩ := h.map.obj
        simp [World.cell?, hm] at h0
theorem acc_rd {w w' : World} {base b mb : Nat} {r n first : Int} {vs : List Vt} (h : AccAt w base b mb r n first vs) (hk : Keep (fun k => k = b ∨ k = mb) w w') {v : Vt} (hr : Rd w v) : Rd w' v := ⟨acc_lie h hk hr.lie, hr.nil, hr.len⟩
/-- What a promise leaves. -/
theorem acc_promise {w : World} {base b mb : Nat} {r n first : Int} {vs : List Vt} (h : AccAt w base b mb r n first vs) (r' n' : Int) :
    AccAt ((w.setCell ⟨b, 0, none⟩ (.int .i64 r')).setCell ⟨b, 1, none⟩ (.int .i64 n')) base b mb r' n' first vs ∧ Keep (fun k => k = b ∨ k = mb) w ((w.setCell ⟨b, 0, none⟩ (.int .i64 r')).setCell ⟨b, 1, none⟩ (.int .i64 n')) := by
  have hk : Keep (fun k => k = b ∨ k = mb) w ((w.setCell ⟨b, 0, none⟩ (.int .i64 r')).setCell ⟨b, 1, none⟩ (.int .i64 n')) :=
    ((Keep.refl _ w).setCell (p := ⟨b, 0, none⟩) (.inr (.inl rfl)) _).setCell (p := ⟨b, 1, none⟩) (.inr (.inl rfl)) _
  have hne := h.ne
  exact ⟨⟨hp_set (hp_set h.blk 0 _) 1 _, (h.map.set (a := ⟨b, 0, none⟩) (fun e => hne e.symm) _).set (a := ⟨b, 1, none⟩) (fun e => hne e.symm) _, h.lo, h.ord, h.one, h.rng, h.fit, fun v hv => h.row hk (h.bodies v hv) (by decide)⟩, hk⟩
/-- What a stored vote leaves. -/
theorem acc_store {w7 w8 : World} {base b mb : Nat} {r n first : Int} {vs : List Vt} (h : AccAt w7 base b mb r n first vs) (v : Vt) (hm : MapAt w8 Try.prog 3 mb (accd.look (put vs v)) (put vs v).length) (hg : w7.grownBy w8 (some mb)) (hb : accd.Body w7 base v) (hl : v.l.length ≤ 2048) (hs : first ≤ v.s ∧ v.s < first + 16) :
    AccAt w8 base b mb r n first (put vs v) ∧ Keep (fun k => k = b ∨ k = mb) w7 w8 := by
  have hne := h.ne
  have hk : Keep (fun k => k = b ∨ k = mb) w7 w8 := ⟨hg.os, hg.tape, hg.output, hg.size, fun k hk hn => hg.block k hk (fun e => hn (.inr (Option.some.inj e)))⟩
  refine ⟨⟨(hg.block b (kit.blk h.blk).2.2 (fun e => hne (Option.some.inj e))).trans h.blk, hm, h.lo, put_ord v h.ord, h.one, fun x hx => ?_, fun x hx => ?_, fun x hx => ?_⟩, hk⟩
  all_goals rcases put_mem hx with rfl | hx
  · exact hs
  · exact h.rng x hx
  · exact hl
  · exact h.fit x hx
  · exact h.row hk hb (by decide)
  · exact h.row hk (h.bodies x hx) (by decide)

theorem accept_arg (w : World) (base b mb : Nat) (r n first : Int) (vs : List Vt) (v : Vt) (h : AccAt w base b mb r n first vs) (hv : realB v.r v.n = false ∨ 2048 < v.l.length) (hlen : v.l.length ≤ 9223372036854775807) :
    Calls Try.prog 25 #[.pointer (some ⟨b, 0, none⟩), v.val] w fun e w' => e = .returned (.int .i64 1) ∧ Below w.heap.size w w' := by
  obtain ⟨w1, hw1⟩ : ∃ w1 : World, w1 = w.alloc (.cells #[.int .i64 v.s, .int .i64 v.r, .int .i64 v.n, .slice v.a v.l.length v.c] 45) := ⟨_, rfl⟩
  have hb1 : Below w.heap.size w w1 := by rw [hw1]; exact below_new1 _ _
  have hn1 : w1.heap[w.heap.size]? = some (.cells #[.int .i64 v.s, .int .i64 v.r, .int .i64 v.n, .slice v.a v.l.length v.c] 45 (0, 0)) := by rw [hw1]; exact hp_alloc_new _ _
  have HW := Lib.hid hw1
  have HB1 := Lib.hid hb1
  have HN1 := Lib.hid hn1
  have HC := Lib.hid (real_any v.r v.n w1)
  obtain ⟨q0, q1, q2, q3, qz⟩ := blk4 hn1
  clear hw1 hb1 hn1 h
  simp only [Vt.val]
  by_cases hR : realB v.r v.n = false
  · rw [hR] at HC
    clear hR hv
    go_enter Try.func25, Try.ntmps25
    go_wp2_with fail
    rw [← HW.out]
    refine HC.out.mono ?_; rintro e w2 ⟨rfl, hb2⟩
    have HB2 := Lib.hid (below_step HB1.out hb2)
    clear hb2 HC
    go_wp2_with fail
    go_ret
    exact ⟨rfl, HB2.out⟩
  · have hl : 2048 < v.l.length := hv.resolve_left hR
    have hR' : realB v.r v.n = true := by simpa using hR
    rw [hR'] at HC
    clear hR hR' hv
    have t1 : decide ((2048 : Int) < (v.l.length : Int)) = true := decide_eq_true (by omega)
    have t2 : (2048 : Int) < (v.l.length : Int) := by omega
    go_enter Try.func25, Try.ntmps25
    go_wp2_with fail
    rw [← HW.out]
    refine HC.out.mono ?_; rintro e w2 ⟨rfl, hb2⟩
    have HB2 := Lib.hid (below_step HB1.out hb2)
    obtain ⟨p0, p1, p2, p3, pz⟩ := blk4 (hp_step HN1.out hb2)
    clear hb2 HC
    go_wp2_with fail
    go_ret
    exact ⟨rfl, HB2.out⟩

/-- From the test of the ballot on. -/
theorem accept_mid (w : World) (base b mb : Nat) (r n first : Int) (vs : List Vt) (v : Vt) (h : AccAt w base b mb r n first vs) (hbw : base ≤ w.heap.size) (hr : Rd w v) (hR : realB v.r v.n = true) (hl : v.l.length ≤ 2048) (hs1 : -9223372036854775808 ≤ v.s) (hs2 : v.s ≤ 9223372036854775807) :
    Calls Try.prog 25 #[.pointer (some ⟨b, 0, none⟩), v.val] w fun e w' => e = .returned (.int .i64 (accE r n first (lv v))) ∧ Left w' w.heap.size base b mb r n first vs v ∧ Keep (fun k => k = b ∨ k = mb) w w' := by
  obtain ⟨w1, hw1⟩ : ∃ w1 : World, w1 = w.alloc (.cells #[.int .i64 v.s, .int .i64 v.r, .int .i64 v.n, .slice v.a v.l.length v.c] 45) := ⟨_, rfl⟩
  have hb1 : Below w.heap.size w w1 := by rw [hw1]; exact below_new1 _ _
  have hn1 : w1.heap[w.heap.size]? = some (.cells #[.int .i64 v.s, .int .i64 v.r, .int .i64 v.n, .slice v.a v.l.length v.c] 45 (0, 0)) := by rw [hw1]; exact hp_alloc_new _ _
  have HW := Lib.hid hw1
  have HB1 := Lib.hid hb1
  have HN1 := Lib.hid hn1
  have HH := Lib.hid h
  have HRD := Lib.hid hr
  have hone := h.one
  have HC := Lib.hid (real_any v.r v.n w1)
  rw [hR] at HC
  obtain ⟨q0, q1, q2, q3, qz⟩ := blk4 hn1
  have hbz := (kit.blk h.blk).2.2
  have t1 : decide ((2048 : Int) < (v.l.length : Int)) = false := decide_eq_false (by omega)
  have t2 : ¬ (2048 : Int) < (v.l.length : Int) := by omega
  have hE : accE r n first (lv v) = if lessB v.r v.n r n = true then 90 else if v.s < first then 80 else if first + 16 ≤ v.s then 81 else 0 := by
    rw [accE, if_neg (by simp only [lv, hR]; simp; omega)]
    rfl
  have HE := Lib.hid hE
  clear hw1 hb1 hn1 h hE hr
  simp only [Vt.val]
  go_enter Try.func25, Try.ntmps25
  go_wp2_with fail
  rw [← HW.out]
  refine HC.out.mono ?_; rintro e w2 ⟨rfl, hb2⟩
  have hb02 := below_step HB1.out hb2
  have hA2 := HH.out.below hb02
  have HB2 := Lib.hid hb02
  have HN2 := Lib.hid (hp_step HN1.out hb2)
  have HA2 := Lib.hid hA2
  obtain ⟨p0, p1, p2, p3, pz⟩ := blk4 HN2.out
  obtain ⟨c0, c1, c2, c3, cz⟩ := blk4 hA2.blk
  have HC2 := Lib.hid (less_any v.r v.n r n w2.drew)
  clear hb2 HC hb02 hA2 q0 q1 q2 q3 qz
  go_wp2_with fail
  go_still_tail 6, (by kernel_rfl)
  change wpList _ _ _ _ _ w2.drew
  go_wp2_with fail
  refine HC2.out.mono ?_; rintro e w3 ⟨rfl, hb3⟩
  have hb03 := below_step HB2.out (below_step (below_drewN (Below.refl _ w2) 1) hb3)
  have hN3 := hp_step HN2.out (below_step (below_drewN (Below.refl _ w2) 1) hb3)
  have HB3 := Lib.hid hb03
  have HA3 := Lib.hid (HH.out.below hb03)
  have HN3 := Lib.hid hN3
  clear hb3 hb03 hN3 HC2 p0 p1 p2 p3 pz c0 c1 c2 c3 cz
  obtain ⟨p0, p1, p2, p3, pz⟩ := blk4 HN3.out
  obtain ⟨c0, c1, c2, c3, cz⟩ := blk4 HA3.out.blk
  by_cases hL : lessB v.r v.n r n = true
  · rw [hL]
    have hE : accE r n first (lv v) = 90 := by rw [HE.out, if_pos hL]
    go_wp2_with fail
    go_ret
    refine ⟨by rw [hE]; rfl, ?_, Keep.of_below HB3.out⟩
    rw [Left, hE, if_neg (by decide)]
    exact HA3.out
  · rw [show lessB v.r v.n r n = false by simpa using hL]
    go_wp2_with fail
    go_quiet (fail)
    obtain ⟨w4, hw4⟩ : ∃ w4 : World, w4 = w3.drewN nq := ⟨_, rfl⟩
    rw [← hw4]
    have hb4 : Below w.heap.size w w4 := by rw [hw4]; exact below_drewN HB3.out nq
    have HN4 : Hid (w4.heap[w.heap.size]? = some (.cells #[.int .i64 v.s, .int .i64 v.r, .int .i64 v.n, .slice v.a v.l.length v.c] 45 (0, 0))) := by rw [hw4]; exact HN3.out
    have HB4 := Lib.hid hb4
    have HA4 := Lib.hid (HH.out.below hb4)
    clear hw4 hb4 HN3 HA3 HB3 p0 p1 p2 p3 pz c0 c1 c2 c3 cz
    obtain ⟨p0, p1, p2, p3, pz⟩ := blk4 HN4.out
    obtain ⟨c0, c1, c2, c3, cz⟩ := blk4 HA4.out.blk
    by_cases h80 : v.s < first
    · have hE : accE r n first (lv v) = 80 := by rw [HE.out, if_neg hL, if_pos h80]
      have d80 : decide (v.s < first) = true := decide_eq_true h80
      go_wp2_with fail
      go_ret
      refine ⟨by rw [hE]; rfl, ?_, Keep.of_below HB4.out⟩
      rw [Left, hE, if_neg (by decide)]
      exact HA4.out
    · have d80 : decide (v.s < first) = false := decide_eq_false h80
      have hsub : IntKind.i64.wrap (v.s - first) = v.s - first := IntWalk.i64_in _ (by omega)
      go_wp2_with fail
      go_quiet (fail)
      obtain ⟨w5, hw5⟩ : ∃ w5 : World, w5 = w4.drewN nq := ⟨_, rfl⟩
      rw [← hw5]
      have hb5 : Below w.heap.size w w5 := by rw [hw5]; exact below_drewN HB4.out nq
      have HN5 : Hid (w5.heap[w.heap.size]? = some (.cells #[.int .i64 v.s, .int .i64 v.r, .int .i64 v.n, .slice v.a v.l.length v.c] 45 (0, 0))) := by rw [hw5]; exact HN4.out
      have HB5 := Lib.hid hb5
      have HA5 := Lib.hid (HH.out.below hb5)
      clear hw5 hb5 HN4 HA4 HB4 p0 p1 p2 p3 pz c0 c1 c2 c3 cz
      obtain ⟨p0, p1, p2, p3, pz⟩ := blk4 HN5.out
      obtain ⟨c0, c1, c2, c3, cz⟩ := blk4 HA5.out.blk
      obtain ⟨f0, f1, f2, f3⟩ := blk4f HA5.out.blk
      by_cases h81 : first + 16 ≤ v.s
      · have hE : accE r n first (lv v) = 81 := by rw [HE.out, if_neg hL, if_neg (by omega), if_pos h81]
        have d81 : decide ((16 : Int) ≤ v.s - first) = true := decide_eq_true (by omega)
        go_wp2_with fail
        go_ret
        refine ⟨by rw [hE]; rfl, ?_, Keep.of_below HB5.out⟩
        rw [Left, hE, if_neg (by decide)]
        exact HA5.out
      · have hE : accE r n first (lv v) = 0 := by rw [HE.out, if_neg hL, if_neg (by omega), if_neg h81]
        have d81 : decide ((16 : Int) ≤ v.s - first) = false := decide_eq_false (by omega)
        have hbne : w.heap.size ≠ b := by omega
        have hq := fun w => run_eql_map_nil (P := Try.prog) w 96 3 45 (some mb) Try.underlying96
        go_wp2_with fail
        obtain ⟨hA6, hk6⟩ := acc_promise HA5.out v.r v.n
        obtain ⟨w6, hw6⟩ : ∃ w6 : World, w6 = (w5.setCell ⟨b, 0, none⟩ (.int .i64 v.r)).setCell ⟨b, 1, none⟩ (.int .i64 v.n) := ⟨_, rfl⟩
        rw [← hw6] at hA6 hk6 ⊢
        have hn6 : w6.heap[w.heap.size]? = some (.cells #[.int .i64 v.s, .int .i64 v.r, .int .i64 v.n, .slice v.a v.l.length v.c] 45 (0, 0)) := by
          rw [hw6]; exact (hp_set_ne (by exact hbne)).trans ((hp_set_ne (by exact hbne)).trans HN5.out)
        have hk06 : Keep (fun k => k = b ∨ k = mb) w w6 := (Keep.of_below HB5.out).trans hk6
        have hrd6 : Rd w6 v := acc_rd HA5.out hk6 (HRD.out.below HB5.out)
        have hbd : Below w6.heap.size w6 w6.drew := below_drewN (Below.refl _ w6) 1
        have HCP := Lib.hid (copied_b w6.drew v (hrd6.below hbd))
        have HA6 := Lib.hid hA6
        have HN6 := Lib.hid hn6
        have HK6 := Lib.hid hk06
        have HBD := Lib.hid hbd
        obtain ⟨x0, x1, x2, x3, xz⟩ := blk4 hA6.blk
        obtain ⟨y0, y1, y2, y3, yz⟩ := blk4 hn6
        have hsz6 := hk06.size
        have hrg : first ≤ v.s ∧ v.s < first + 16 := ⟨by omega, by omega⟩
        clear p0 p1 p2 p3 pz c0 c1 c2 c3 cz f0 f1 f2 f3 hw6 hA6 hk6 hn6 hk06 hrd6 hbd
        go_region_held3 (fun w' => w'.cell? ⟨b, 3, none⟩ = some (.map (some mb)) ∧ w'.cell? ⟨w.heap.size, 0, none⟩ = some (.int .i64 v.s) ∧ w'.cell? ⟨w.heap.size, 1, none⟩ = some (.int .i64 v.r) ∧ w'.cell? ⟨w.heap.size, 2, none⟩ = some (.int .i64 v.n) ∧ w'.cell? ⟨w.heap.size, 3, none⟩ = some (.slice v.a v.l.length v.c)) (first | (exact ⟨x3, y0, y1, y2, y3⟩) | (exact ⟨z3, u0, u1, u2, u3⟩) | (exact ⟨s3, t0, t1, t2, t3⟩)) (first | (go_at_call 52; refine HCP.out.mono ?_; rintro e w7 ⟨a7, c7, rfl, hbd7, hb7⟩; have hb67 := below_step HBD.out hb7; have hA7 := HA6.out.below hb67; obtain ⟨z0, z1, z2, z3, zz⟩ := blk4 hA7.blk; have hn7 := hp_step HN6.out hb67; obtain ⟨u0, u1, u2, u3, uz⟩ := blk4 hn7; obtain ⟨w8, hup, hm8, hg8⟩ := votes_store hA7.map hA7.ord hA7.len ⟨v.s, v.r, v.n, v.l, a7, c7⟩ hs1 hs2; obtain ⟨hA8, hk78⟩ := acc_store hA7 ⟨v.s, v.r, v.n, v.l, a7, c7⟩ hm8 hg8 (own_mono hbd7 (Nat.le_trans hbw hsz6)) hl hrg; obtain ⟨s0, s1, s2, s3, sz⟩ := blk4 hA8.blk; obtain ⟨t0, t1, t2, t3, tz⟩ := blk4 ((hg8.block w.heap.size uz (fun e => by have := HH.out.map.lt; have := Option.some.inj e; omega)).trans hn7); have HA8 := Lib.hid hA8; have HFR := Lib.hid (fun g (hg : a7 = some ⟨g, 0, none⟩) => Nat.le_trans hsz6 (own_from hbd7 g hg).1); have HK8 := Lib.hid ((HK6.out.trans (Keep.of_below hb67)).trans' hk78 (fun _ _ h => h)); simp only [Vt.val] at hup; clear hbd7 hb7 hb67 hA7 hn7 hm8 hg8 hA8 hk78))
        go_wp2_with fail
        go_ret
        refine ⟨by rw [hE]; rfl, ?_, HK8.out⟩
        rw [Left, hE, if_pos rfl]
        exact ⟨⟨v.s, v.r, v.n, v.l, a7, c7⟩, rfl, HFR.out, HA8.out⟩

/-- A vote that can be read, of whatever length. -/
structure Rd2 (w : World) (v : Vt) : Prop where
  lie : Lie w v.a (bcells v.l)
  nil : v.a = none → v.l.length = 0 ∧ v.c = 0
  len : v.l.length ≤ 9223372036854775807
theorem Rd2.below {w w' : World} {v : Vt} (h : Rd2 w v) (hb : Below w.heap.size w w') : Rd2 w' v := ⟨h.lie.below hb, h.nil, h.len⟩
theorem accept_at (w : World) (base b mb : Nat) (r n first : Int) (vs : List Vt) (v : Vt) (h : AccAt w base b mb r n first vs) (hbw : base ≤ w.heap.size) (hr : Rd2 w v) (hs1 : -9223372036854775808 ≤ v.s) (hs2 : v.s ≤ 9223372036854775807) :
    Calls Try.prog 25 #[.pointer (some ⟨b, 0, none⟩), v.val] w fun e w' => e = .returned (.int .i64 (accE r n first (lv v))) ∧ Left w' w.heap.size base b mb r n first vs v ∧ Keep (fun k => k = b ∨ k = mb) w w' := by
  by_cases hx : realB v.r v.n = false ∨ 2048 < v.l.length
  · refine (accept_arg w base b mb r n first vs v h hx hr.len).mono ?_
    rintro e w' ⟨rfl, hb⟩
    have hE : accE r n first (lv v) = 1 := by rw [accE]; exact if_pos hx
    refine ⟨by rw [hE], ?_, Keep.of_below hb⟩
    rw [Left, hE, if_neg (by decide)]
    exact h.below hb
  · exact accept_mid w base b mb r n first vs v h hbw ⟨hr.lie, hr.nil, by omega⟩ (by cases hh : realB v.r v.n with
      | true => rfl
      | false => exact absurd (.inl hh) hx) (by omega) hs1 hs2
/-- An acceptor as data. -/
structure AS where
  r : Int
  n : Int
  first : Int
  vs : List V4
def put4 (vs : List V4) (v : V4) : List V4 := vs.filter (fun x => x.s < v.s) ++ v :: vs.filter (fun x => v.s < x.s)
theorem put_lv (vs : List Vt) (v : Vt) : (put vs v).map lv = put4 (vs.map lv) (lv v) := by
  rw [put, put4, List.map_append, List.map_cons, List.filter_map, List.filter_map]
  rfl
def AccIs (w : World) (base b mb : Nat) (A : AS) : Prop := ∃ vs, AccAt w base b mb A.r A.n A.first vs ∧ vs.map lv = A.vs
def accS (A : AS) (v : V4) : AS := if accE A.r A.n A.first v = 0 then ⟨v.r, v.n, A.first, put4 A.vs v⟩ else A
theorem AccIs.below {w w' : World} {base b mb : Nat} {A : AS} (h : AccIs w base b mb A) (hb : Below w.heap.size w w') : AccIs w' base b mb A := by
  obtain ⟨vs, h1, h2⟩ := h
  exact ⟨vs, h1.below hb, h2⟩
theorem accept_ok (w : World) (base b mb : Nat) (A : AS) (v : Vt) (h : AccIs w base b mb A) (hbw : base ≤ w.heap.size) (hr : Rd2 w v) (hs1 : -9223372036854775808 ≤ v.s) (hs2 : v.s ≤ 9223372036854775807) :
    Calls Try.prog 25 #[.pointer (some ⟨b, 0, none⟩), v.val] w fun e w' => e = .returned (.int .i64 (accE A.r A.n A.first (lv v))) ∧ AccIs w' base b mb (accS A (lv v)) ∧ Keep (fun k => k = b ∨ k = mb) w w' := by
  obtain ⟨vs, h1, h2⟩ := h
  refine (accept_at w base b mb _ _ _ vs v h1 hbw hr hs1 hs2).mono ?_
  rintro e w' ⟨rfl, hl, hk⟩
  refine ⟨rfl, ?_, hk⟩
  rw [Left] at hl
  rw [accS]
  split at hl
  · rename_i hE
    rw [if_pos hE]
    obtain ⟨v', hv, -, hA⟩ := hl
    refine ⟨put vs v', ?_, ?_⟩
    · show AccAt w' base b mb v.r v.n A.first (put vs v')
      exact hA
    · rw [put_lv, hv, h2]
  · rename_i hE
    rw [if_neg hE]
    exact ⟨vs, hl, h2⟩
/-- An acceptor that has nothing in the blocks N. -/
def AccOff (w : World) (base b mb : Nat) (A : AS) (N : Nat → Prop) : Prop := ∃ vs, AccAt w base b mb A.r A.n A.first vs ∧ vs.map lv = A.vs ∧ ∀ v ∈ vs, ∀ g, v.a = some ⟨g, 0, none⟩ → ¬ N g
theorem AccOff.is {w : World} {base b mb : Nat} {A : AS} {N : Nat → Prop} (h : AccOff w base b mb A N) : AccIs w base b mb A := by
  obtain ⟨vs, h1, h2, -⟩ := h
  exact ⟨vs, h1, h2⟩
theorem AccIs.off {w : World} {base b mb : Nat} {A : AS} {N : Nat → Prop} (h : AccIs w base b mb A) (hN : ∀ g, N g → w.heap.size ≤ g) : AccOff w base b mb A N := by
  obtain ⟨vs, h1, h2⟩ := h
  refine ⟨vs, h1, h2, fun v hv g hg hn => ?_⟩
  have := (own_from (h1.bodies v hv) g hg).2
  have := hN g hn
  omega
theorem AccOff.below {w w' : World} {base b mb : Nat} {A : AS} {N : Nat → Prop} (h : AccOff w base b mb A N) (hb : Below w.heap.size w w') : AccOff w' base b mb A N := by
  obtain ⟨vs, h1, h2, h3⟩ := h
  exact ⟨vs, h1.below hb, h2, h3⟩
theorem accept_off (w : World) (base b mb : Nat) (A : AS) (N : Nat → Prop) (v : Vt) (h : AccOff w base b mb A N) (hN : ∀ g, N g → g < w.heap.size) (hbw : base ≤ w.heap.size) (hr : Rd2 w v) (hs1 : -9223372036854775808 ≤ v.s) (hs2 : v.s ≤ 9223372036854775807) :
    Calls Try.prog 25 #[.pointer (some ⟨b, 0, none⟩), v.val] w fun e w' => e = .returned (.int .i64 (accE A.r A.n A.first (lv v))) ∧ AccOff w' base b mb (accS A (lv v)) N ∧ Keep (fun k => k = b ∨ k = mb) w w' := by
  obtain ⟨vs, h1, h2, h3⟩ := h
  refine (accept_at w base b mb _ _ _ vs v h1 hbw hr hs1 hs2).mono ?_
  rintro e w' ⟨rfl, hl, hk⟩
  refine ⟨rfl, ?_, hk⟩
  rw [Left] at hl
  rw [accS]
  split at hl
  · rename_i hE
    rw [if_pos hE]
    obtain ⟨v', hv, hf, hA⟩ := hl
    refine ⟨put vs v', ?_, ?_, fun x hx g hg hn => ?_⟩
    · show AccAt w' base b mb v.r v.n A.first (put vs v')
      exact hA
    · rw [put_lv, hv, h2]
    · rcases put_mem hx with rfl | hx
      · have := hf g hg
        have := hN g hn
        omega
      · exact h3 x hx g hg hn
  · rename_i hE
    rw [if_neg hE]
    exact ⟨vs, hl, h2, h3⟩
/-- A byte that the law writes. -/
theorem AccOff.put {w : World} {base b mb g : Nat} {A : AS} {cs : Array Value} (h : AccOff w base b mb A (fun k => k = g)) (hg : w.heap[g]? = some (.cells cs 5 (0, 0))) (k : Nat) (v : Value) : AccOff (w.setCell ⟨g, k, none⟩ v) base b mb A (fun k => k = g) := by
  obtain ⟨vs, h1, h2, h3⟩ := h
  have hk : ∀ j, j ≠ g → (w.setCell ⟨g, k, none⟩ v).heap[j]? = w.heap[j]? := fun j hj => hp_set_ne hj
  have hb : b ≠ g := by
    intro e
    have h := h1.blk
    rw [e, hg] at h
    simp at h
  obtain ⟨es, cl, hm⟩ := h1.map.obj
  have hmb : mb ≠ g := by
    intro e
    rw [e, hg] at hm
    simp at hm
  refine ⟨vs, ⟨(hk b hb).trans h1.blk, h1.map.set (a := ⟨g, k, none⟩) (fun e => hmb e) _, h1.lo, h1.ord, h1.one, h1.rng, h1.fit, fun x hx => own_kept (h1.bodies x hx) (fun j hj => hk j (fun e => h3 x hx j hj e))⟩, h2, h3⟩
end Go.Proofs.Ytodoncmielfbeaa.accb
