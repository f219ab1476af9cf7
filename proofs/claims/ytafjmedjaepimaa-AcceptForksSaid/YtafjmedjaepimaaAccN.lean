/-
  An acceptor's Fork.
-/
import Derived.Test.YtafjmedjaepimaaAccM
namespace Go.Proofs.Ytafjmedjaepimaa.accn
open Go.ChangeShapes Go.WideShapes Go.ChangeAt Go.RowKit Go.Joins
open Go.Proofs.Ytafjmedjaepimaa.kit Go.Proofs.Ytafjmedjaepimaa.mapkit Go.Proofs.Ytafjmedjaepimaa.byt Go.Proofs.Ytafjmedjaepimaa.own Go.Proofs.Ytafjmedjaepimaa.accd Go.Proofs.Ytafjmedjaepimaa.acca Go.Proofs.Ytafjmedjaepimaa.accb Go.Proofs.Ytafjmedjaepimaa.acck Go.Proofs.Ytafjmedjaepimaa.acce Go.Proofs.Ytafjmedjaepimaa.accf Go.Proofs.Ytafjmedjaepimaa.accg Go.Proofs.Ytafjmedjaepimaa.acch Go.Proofs.Ytafjmedjaepimaa.acci Go.Proofs.Ytafjmedjaepimaa.accj Go.Proofs.Ytafjmedjaepimaa.accr Go.Proofs.Ytafjmedjaepimaa.accl Go.Proofs.Ytafjmedjaepimaa.accm
set_option linter.unusedVariables false
set_option linter.unusedSimpArgs false
set_option maxHeartbeats 4000000
set_option maxRecDepth 100000

theorem fork_ok (w : World) (base b mb : Nat) (A : AS) (h : AccIs w base b mb A) :
    Calls Try.prog 25 #[.pointer (some ⟨b, 0, none⟩)] w fun e w' => ∃ b' mb', e = .returned (.pointer (some ⟨b', 0, none⟩)) ∧ w.heap.size ≤ b' ∧ w.heap.size ≤ mb' ∧ AccIs w' w.heap.size b' mb' A ∧ Below w.heap.size w w' := by
  obtain ⟨vs0, hA0, hvs0⟩ := h
  obtain ⟨c0, c1, c2, c3, cz⟩ := blk4 hA0.blk
  have HORD := Lib.hid (is_ord ⟨vs0, hA0, hvs0⟩)
  have HRNG := Lib.hid (is_rng ⟨vs0, hA0, hvs0⟩)
  have HFIT := Lib.hid (is_fit ⟨vs0, hA0, hvs0⟩)
  have hone := is_one ⟨vs0, hA0, hvs0⟩
  have hlenA := is_len ⟨vs0, hA0, hvs0⟩
  have HIS := Lib.hid (⟨vs0, hA0, hvs0⟩ : AccIs w base b mb A)
  have hmm := @run_makeMap Try.prog
  have hN := new2 w (.map #[] 0) (.cells #[.int .i64 A.r, .int .i64 A.n, .int .i64 A.first, .map (some w.heap.size)] 63)
  have hb0 := below_new2 w (.map #[] 0) (.cells #[.int .i64 A.r, .int .i64 A.n, .int .i64 A.first, .map (some w.heap.size)] 63)
  have hmN := (map_made w Try.prog 3).alloc (.cells #[.int .i64 A.r, .int .i64 A.n, .int .i64 A.first, .map (some w.heap.size)] 63)
  have hsz0 : ((w.alloc (.map #[] 0)).alloc (.cells #[.int .i64 A.r, .int .i64 A.n, .int .i64 A.first, .map (some w.heap.size)] 63)).heap.size = w.heap.size + 1 + 1 := hN.2.2
  have hbd : Below ((w.alloc (.map #[] 0)).alloc (.cells #[.int .i64 A.r, .int .i64 A.n, .int .i64 A.first, .map (some w.heap.size)] 63)).heap.size ((w.alloc (.map #[] 0)).alloc (.cells #[.int .i64 A.r, .int .i64 A.n, .int .i64 A.first, .map (some w.heap.size)] 63)) ((w.alloc (.map #[] 0)).alloc (.cells #[.int .i64 A.r, .int .i64 A.n, .int .i64 A.first, .map (some w.heap.size)] 63)).drew := below_drewN (Below.refl _ _) 1
  obtain ⟨w3, hw3⟩ : ∃ w3, w3 = ((w.alloc (.map #[] 0)).alloc (.cells #[.int .i64 A.r, .int .i64 A.n, .int .i64 A.first, .map (some w.heap.size)] 63)).drew := ⟨_, rfl⟩
  rw [← hw3] at hbd
  have hA3 : Fill w3 w.heap.size (w.heap.size + 1) w.heap.size A.r A.n A.first [] := by
    refine ⟨[], ⟨hp_step hN.2.1 hbd, ?_, ⟨by omega, by omega⟩, List.Pairwise.nil, hone, by simp, by simp, by simp⟩, rfl⟩
    have e : accd.look ([] : List Vt) = fun _ => none := by funext x; cases x <;> first | rfl | (rename_i k _; cases k <;> rfl)
    rw [e]
    exact hmN.below hbd
  have HA3 := Lib.hid hA3
  have HB3 := Lib.hid (show Below w.heap.size w w3 from below_step hb0 hbd)
  have HW3 := Lib.hid hw3
  have k0 := cell_step c0 (below_new1 w (.map #[] 0))
  have k1 := cell_step c1 (below_new1 w (.map #[] 0))
  have k2 := cell_step c2 (below_new1 w (.map #[] 0))
  have l0 := cell_step c0 hb0
  have l1 := cell_step c1 hb0
  have l2 := cell_step c2 hb0
  have HVO := Lib.hid (votes_ok w3 base b mb A (AccIs.below HIS.out HB3.out))
  have hbb : w.heap.size ≤ w.heap.size + 1 := by omega
  clear hN hb0 hbd hmN hA3 hw3 hA0 hvs0 hsz0
  go_enter Try.func25, Try.ntmps25
  go_wp2_with fail
  go_region_held3 (fun w' => w'.cell? ⟨b, 0, none⟩ = some (.int .i64 A.r) ∧ w'.cell? ⟨b, 1, none⟩ = some (.int .i64 A.n) ∧ w'.cell? ⟨b, 2, none⟩ = some (.int .i64 A.first)) (first | (exact ⟨c0, c1, c2⟩) | (exact ⟨k0, k1, k2⟩) | (exact ⟨l0, l1, l2⟩)) (first | fail)
  go_wp2_with fail
  rw [← HW3.out]
  refine HVO.out.mono ?_; rintro e w4 ⟨tv, rfl, ht, hb4⟩
  obtain ⟨at', ct', vs, rfl, hvs, hrow, hbody⟩ := ht
  have HF4 : Hid (Fill w4 w.heap.size (w.heap.size + 1) w.heap.size A.r A.n A.first ((vs.map lv).take 0)) := by
    obtain ⟨xs, h1, h2⟩ := HA3.out
    exact ⟨xs, h1.below hb4, by rw [h2]; simp⟩
  have HB4 := Lib.hid (below_step HB3.out hb4)
  have HROW := Lib.hid hrow
  have HBO := Lib.hid hbody
  have HVS := Lib.hid hvs
  have hvl : vs.length ≤ 16 := by have h := congrArg List.length hvs; rw [List.length_map] at h; omega
  have hsz3 := HB3.out.size
  obtain ⟨b', hb'⟩ : ∃ b', b' = w.heap.size + 1 := ⟨_, rfl⟩
  obtain ⟨mb', hmb'⟩ : ∃ mb', mb' = w.heap.size := ⟨_, rfl⟩
  have HF4' : Hid (Fill w4 w.heap.size b' mb' A.r A.n A.first ((vs.map lv).take 0)) := by rw [hb', hmb']; exact HF4
  rw [← hb']
  have hbb' : w.heap.size ≤ b' := by omega
  have hmm' : w.heap.size ≤ mb' := by omega
  clear HF4 hb4 hrow hbody hvs HVO HA3 HB3 HW3 c0 c1 c2 c3 cz k0 k1 k2 l0 l1 l2 hb' hmb'
  go_wp2_with fail
  go_loopw [22] (fun i wr => ∃ k : Nat, k ≤ vs.length ∧ i = .int .i64 k ∧ Hid (Fill wr w.heap.size b' mb' A.r A.n A.first ((vs.map lv).take k)) ∧ Hid (Below w.heap.size w wr) ∧ Hid (wr.ownsRow w3.heap.size 38 4 (.slice at' vs.length ct') vs.length (vcells vs)) ∧ Hid (∀ x ∈ vs, accd.Body wr w3.heap.size x)) (fun i _ => vs.length - (intOf i).toNat)
  case atStart => exact ⟨0, Nat.zero_le _, rfl, HF4', HB4, HROW, HBO⟩
  case round =>
    obtain ⟨k, hk, rfl, HF, HB, HRW, HBD⟩ := hrel
    by_cases hlt : k < vs.length
    · have hkm : k < (vs.map lv).length := by rw [List.length_map]; exact hlt
      obtain ⟨g, hge⟩ := own_ptr HRW.out (by omega)
      subst hge
      obtain ⟨x0, x1, x2, x3⟩ := vt_cells HRW.out hlt
      have hgz := (own_from HRW.out g rfl).2
      have hmem : lv vs[k] ∈ A.vs := by rw [← HVS.out]; exact List.mem_map_of_mem (List.getElem_mem hlt)
      have hrg := HRNG.out _ hmem
      have hft := HFIT.out _ hmem
      have htk : (vs.map lv).take (k + 1) = (vs.map lv).take k ++ [lv vs[k]] := by rw [List.take_succ_eq_append_getElem hkm]; simp
      have hlow : ∀ y ∈ (vs.map lv).take k, y.s < (lv vs[k]).s := by
        intro y hy
        obtain ⟨j, hj, rfl⟩ := List.mem_take_iff_getElem.1 hy
        have hp := HORD.out
        rw [← HVS.out] at hp
        have h := List.pairwise_iff_getElem.1 hp j k (by omega) hkm (by omega)
        simpa using h
      have hbx := HBD.out _ (List.getElem_mem hlt)
      obtain ⟨v, hv⟩ : ∃ v, v = vs[k] := ⟨_, rfl⟩
      rw [← hv] at x0 x1 x2 x3 hrg hft htk hlow hbx
      have hrg : A.first ≤ v.s ∧ v.s < A.first + 16 := hrg
      have hft : v.l.length ≤ 2048 := hft
      have HTK := Lib.hid htk
      have HLOW := Lib.hid hlow
      obtain ⟨xs, hx1, hx2⟩ := HF.out
      have hb5 : Below wr.heap.size wr (wr.alloc (.cells #[.int .i64 v.s, .int .i64 v.r, .int .i64 v.n, .slice v.a v.l.length v.c] 38)) := below_new1 _ _
      have hn5 := hp_alloc_new wr (.cells #[.int .i64 v.s, .int .i64 v.r, .int .i64 v.n, .slice v.a v.l.length v.c] 38)
      obtain ⟨w5, hw5⟩ : ∃ w5, w5 = wr.alloc (.cells #[.int .i64 v.s, .int .i64 v.r, .int .i64 v.n, .slice v.a v.l.length v.c] 38) := ⟨_, rfl⟩
      rw [← hw5] at hb5 hn5
      have hbd : Below wr.heap.size wr w5.drew := below_step hb5 (below_drewN (Below.refl _ _) 1)
      have hA5 := hx1.below hbd
      obtain ⟨w6, hup, hm6, hg6⟩ := votes_store hA5.map hA5.ord hA5.len v (by omega) (by omega)
      obtain ⟨hA6, hk56⟩ := acc_store hA5 v hm6 hg6 (own_mono (own_below hbx hbd) hsz3) hft hrg
      have hbx5 := hA5
      obtain ⟨y0, y1, y2, y3, yz⟩ := blk4 hA5.blk
      obtain ⟨z0, z1, z2, z3, zz⟩ := blk4 hA6.blk
      obtain ⟨q0, q1, q2, q3, qz⟩ := blk4 hn5
      have hne : wr.heap.size ≠ mb' := by
        obtain ⟨es, cl, hm⟩ := hx1.map.obj
        have := (Array.getElem?_eq_some_iff.1 hm).1
        omega
      have hn6 := (hg6.block wr.heap.size qz (fun e => by have := Option.some.inj e; omega)).trans hn5
      obtain ⟨u0, u1, u2, u3, uz⟩ := blk4 hn6
      simp only [Vt.val] at hup
      have HA6 := Lib.hid (show Fill w6 w.heap.size b' mb' A.r A.n A.first ((vs.map lv).take (k + 1)) from ⟨_, hA6, by rw [put_lv, hx2, put4_end hlow, htk]⟩)
      have HB6 := Lib.hid ((below_step HB.out hbd).trans (keep_below hk56 (below_step HB.out hbd).size hbb' hmm'))
      have HRW6 := Lib.hid (hA5.row hk56 (own_below HRW.out hbd) (by decide))
      have HBD6 := Lib.hid (fun x hx => (hA5.row hk56 (own_below (HBD.out x hx) hbd) (by decide) : accd.Body w6 w3.heap.size x))
      have HW5 := Lib.hid hw5
      clear hv hrg hft htk hlow hx1 hx2 hb5 hn5 hw5 hbd hA5 hm6 hg6 hA6 hk56 hbx hbx5 hmem hn6
      go_wp2_with fail
      rw [← HW5.out]
      go_region_held3 (fun w' => w'.cell? ⟨b', 3, none⟩ = some (.map (some mb')) ∧ w'.cell? ⟨wr.heap.size, 0, none⟩ = some (.int .i64 v.s) ∧ w'.cell? ⟨wr.heap.size, 1, none⟩ = some (.int .i64 v.r) ∧ w'.cell? ⟨wr.heap.size, 2, none⟩ = some (.int .i64 v.n) ∧ w'.cell? ⟨wr.heap.size, 3, none⟩ = some (.slice v.a v.l.length v.c)) (first | (exact ⟨y3, q0, q1, q2, q3⟩) | (exact ⟨z3, u0, u1, u2, u3⟩)) (first | fail)
      go_wp2_with fail
      go_roundw
      case rel => exact ⟨k + 1, by omega, by go_num, HA6, HB6, HRW6, HBD6⟩
      case measure => simp [intOf]; omega
    · obtain rfl : k = vs.length := by omega
      have HE : Hid (AccIs wr w.heap.size b' mb' A) := by
        obtain ⟨xs, h1, h2⟩ := HF.out
        rw [List.take_of_length_le (by rw [List.length_map]; exact Nat.le_refl _), HVS.out] at h2
        exact ⟨xs, h1, h2⟩
      go_wp2_with fail
      go_ret
      exact ⟨b', mb', rfl, hbb', hmm', HE.out, HB.out⟩
end Go.Proofs.Ytafjmedjaepimaa.accn
