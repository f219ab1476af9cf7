/-
  An acceptor's Prepare.
-/
import Derived.Test.YtodoncmielfbeaaAccG
namespace Go.Proofs.Ytodoncmielfbeaa.acch
open Go.ChangeShapes Go.WideShapes Go.ChangeAt Go.RowKit
open Go.Proofs.Ytodoncmielfbeaa.kit Go.Proofs.Ytodoncmielfbeaa.mapkit Go.Proofs.Ytodoncmielfbeaa.byt Go.Proofs.Ytodoncmielfbeaa.own Go.Proofs.Ytodoncmielfbeaa.accd Go.Proofs.Ytodoncmielfbeaa.acca Go.Proofs.Ytodoncmielfbeaa.accb Go.Proofs.Ytodoncmielfbeaa.acck Go.Proofs.Ytodoncmielfbeaa.acce Go.Proofs.Ytodoncmielfbeaa.accf Go.Proofs.Ytodoncmielfbeaa.accg
set_option linter.unusedVariables false
set_option linter.unusedSimpArgs false
set_option maxHeartbeats 1000000
set_option maxRecDepth 100000

def prepE (A : AS) (r n : Int) : Int := if realB r n = false then 1 else if lessB r n A.r A.n = true then 90 else 0
def prepS (A : AS) (r n : Int) : AS := if prepE A r n = 0 then ⟨r, n, A.first, A.vs⟩ else A
/-- What Prepare tells. -/
def Tells (w w' : World) (A : AS) (r n d : Int) (v : Value) : Prop := if prepE A r n = 0 then accc.Told w w' v (from4 A.vs d) else v = .slice none 0 0

theorem kept_lv (vs : List Vt) (d : Int) : (kept vs d).map lv = from4 (vs.map lv) d := from_lv vs d
theorem prepare_ok (w : World) (base b mb : Nat) (A : AS) (r n d : Int) (h : AccIs w base b mb A) :
    Calls Try.prog 22 #[.pointer (some ⟨b, 0, none⟩), .agg #[.int .i64 r, .int .i64 n], .int .i64 d] w fun e w' => ∃ v, e = .returned (.tuple #[v, .int .i64 (prepE A r n)]) ∧ Tells w w' A r n d v ∧ AccIs w' base b mb (prepS A r n) ∧ Keep (fun k => k = b ∨ k = mb) w w' := by
  obtain ⟨vs, hA, hvs⟩ := h
  obtain ⟨w1, hw1⟩ : ∃ w1 : World, w1 = (w.alloc (.cells #[.int .i64 r, .int .i64 n] 43)).alloc (.cells #[.int .i64 d] 3) := ⟨_, rfl⟩
  have hb1 : Below w.heap.size w w1 := by rw [hw1]; exact below_new2 _ _ _
  have hn1 := new2 w (.cells #[.int .i64 r, .int .i64 n] 43) (.cells #[.int .i64 d] 3)
  rw [← hw1] at hn1
  obtain ⟨n0, n1, hs1⟩ := hn1
  have HN0 := Lib.hid n0
  have HN1 := Lib.hid n1
  have HB1 := Lib.hid hb1
  have HW := Lib.hid hw1
  have HA := Lib.hid hA
  have HR := Lib.hid (real_any r n w1)
  obtain ⟨q0, q1, -, -, qz⟩ := blk2 n0
  have hbz := (kit.blk hA.blk).2.2
  clear n0 n1 hb1 hw1 hA
  by_cases hreal : realB r n = false
  · have hE : prepE A r n = 1 := by rw [prepE, if_pos hreal]
    rw [hreal] at HR
    rw [hE]
    go_enter Try.func22, Try.ntmps22
    go_wp2_with fail
    rw [← HW.out]
    refine HR.out.mono ?_; rintro e w2 ⟨rfl, hb2⟩
    have HB2 := Lib.hid (below_step HB1.out hb2)
    clear hb2 HR
    go_wp2_with fail
    refine bodyPost_ret (v := .tuple #[.slice none 0 0, .int .i64 1]) (by simp [results, Try.results22, go_sem]) rfl ⟨_, rfl, ?_, ?_, Keep.of_below HB2.out⟩
    · rw [Tells, hE, if_neg (by decide)]
    · rw [prepS, hE, if_neg (by decide)]
      exact ⟨vs, HA.out.below HB2.out, hvs⟩
  · have hreal' : realB r n = true := by simpa using hreal
    rw [hreal'] at HR
    go_enter Try.func22, Try.ntmps22
    go_wp2_with fail
    rw [← HW.out]
    refine HR.out.mono ?_; rintro e w2 ⟨rfl, hb2⟩
    have hb02 := below_step HB1.out hb2
    have hA2 := HA.out.below hb02
    obtain ⟨c0, c1, c2, c3, cz⟩ := blk4 hA2.blk
    obtain ⟨p0, p1, -, -, pz⟩ := blk2 (hp_step HN0.out hb2)
    have HN2 := Lib.hid (hp_step HN0.out hb2)
    have HD2 := Lib.hid (hp_step HN1.out hb2)
    have HB2 := Lib.hid hb02
    have HL := Lib.hid (less_any r n A.r A.n w2.drew)
    clear hb2 hb02 hA2 HR q0 q1 qz HN0 HN1
    go_wp2_with fail
    go_still_tail 5, (by kernel_rfl)
    change wpList _ _ _ _ _ w2.drew
    go_wp2_with fail
    refine HL.out.mono ?_; rintro e w3 ⟨rfl, hb3⟩
    have hb23 := below_step (below_drewN (Below.refl _ w2) 1) hb3
    have HB3 := Lib.hid (below_step HB2.out hb23)
    have HA3 := Lib.hid (HA.out.below HB3.out)
    have HN3 := Lib.hid (hp_step HN2.out hb23)
    have HD3 := Lib.hid (hp_step HD2.out hb23)
    clear hb3 hb23 HL c0 c1 c2 c3 cz p0 p1 pz
    by_cases hL : lessB r n A.r A.n = true
    · have hE : prepE A r n = 90 := by rw [prepE, if_neg hreal, if_pos hL]
      rw [hL]
      go_wp2_with fail
      refine bodyPost_ret (v := .tuple #[.slice none 0 0, .int .i64 90]) (by simp [results, Try.results22, go_sem]) rfl ⟨_, by rw [hE], ?_, ?_, Keep.of_below HB3.out⟩
      · rw [Tells, hE, if_neg (by decide)]
      · rw [prepS, hE, if_neg (by decide)]
        exact ⟨vs, HA3.out, hvs⟩
    · have hE : prepE A r n = 0 := by rw [prepE, if_neg hreal, if_neg hL]
      rw [show lessB r n A.r A.n = false by simpa using hL]
      obtain ⟨hA4, hk4⟩ := acc_promise HA3.out r n
      obtain ⟨w4, hw4⟩ : ∃ w4 : World, w4 = (w3.setCell ⟨b, 0, none⟩ (.int .i64 r)).setCell ⟨b, 1, none⟩ (.int .i64 n) := ⟨_, rfl⟩
      rw [← hw4] at hA4 hk4
      obtain ⟨c0, c1, c2, c3, cz⟩ := blk4 HA3.out.blk
      obtain ⟨f0, f1, f2, f3⟩ := blk4f HA3.out.blk
      obtain ⟨p0, p1, -, -, pz⟩ := blk2 HN3.out
      have hd4 : w4.heap[w.heap.size + 1]? = some (.cells #[.int .i64 d] 3 (0, 0)) := by
        rw [hw4]
        exact (hp_set_ne (show w.heap.size + 1 ≠ b by omega)).trans ((hp_set_ne (show w.heap.size + 1 ≠ b by omega)).trans HD3.out)
      have HV := Lib.hid (accc.votes_at w4 base b mb _ _ _ vs hA4)
      have HA4 := Lib.hid hA4
      have HD4 := Lib.hid hd4
      have HK4 := Lib.hid ((Keep.of_below HB3.out).trans hk4)
      have HW4 := Lib.hid hw4
      have hz4 := hk4.size
      have hz3 := HB3.out.size
      clear hA4 hk4 hw4 hd4
      go_wp2_with fail
      rw [← HW4.out]
      refine HV.out.mono ?_; rintro e w5 ⟨v5, rfl, ht5, hb5⟩
      obtain ⟨a, c, xs, rfl, hxl, hrow, hbd⟩ := ht5
      have hlen : xs.length ≤ 16 := by
        have := congrArg List.length hxl
        rw [List.length_map, List.length_map] at this
        have := HA4.out.len
        omega
      have HDF := Lib.hid (delf_any w5 w4.heap.size (w.heap.size + 1) d a c xs hlen hrow (hp_step HD4.out hb5))
      have HROW := Lib.hid hrow
      have HBD := Lib.hid hbd
      have HXL := Lib.hid hxl
      have HB5 := Lib.hid hb5
      clear hrow hbd hxl hb5 HV c0 c1 c2 c3 cz f0 f1 f2 f3 p0 p1 pz
      go_wp2_with fail
      refine HDF.out.mono ?_; rintro e w6 ⟨rfl, hr6, hk6⟩
      have hB46 : Below w4.heap.size w4 w6 := HB5.out.trans (hk6.below HB5.out.size (fun k hk e => by have := (own_from HROW.out k e).1; omega))
      have hbd6 : ∀ x ∈ kept xs d, accd.Body w6 w4.heap.size x := by
        intro x hx
        have hx' := HBD.out x (List.mem_filter.1 hx).1
        refine own_kept hx' (fun g hg => hk6.block g (own_from hx' g hg).2 (fun e => ?_))
        obtain ⟨cur, hcur⟩ := own_heap hx' g hg
        exact own_ne HROW.out hcur (by decide) g e rfl
      have HT := Lib.hid (show accc.Told w w6 (.slice a (kept xs d).length c) (from4 A.vs d) from ⟨a, c, kept xs d, rfl, by rw [kept_lv, HXL.out, hvs], own_mono hr6 (by omega), fun x hx => own_mono (hbd6 x hx) (by omega)⟩)
      have HA6 := Lib.hid (HA4.out.below hB46)
      have HK6 := Lib.hid (HK4.out.trans (Keep.of_below hB46))
      clear hr6 hk6 hB46 hbd6 HDF
      go_wp2_with fail
      refine bodyPost_ret (v := .tuple #[.slice a (kept xs d).length c, .int .i64 0]) (by simp [results, Try.results22, go_sem]) rfl ⟨_, by rw [hE], ?_, ?_, HK6.out⟩
      · rw [Tells, hE, if_pos rfl]
        exact HT.out
      · rw [prepS, hE, if_pos rfl]
        exact ⟨vs, HA6.out, hvs⟩
end Go.Proofs.Ytodoncmielfbeaa.acch
