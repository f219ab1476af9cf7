/-
  AcceptPlays: whatever is asked and told: each answer, and what an acceptor has, is the document's.
-/
import Derived.Test.YtafjmedjaepimaaAccY
import Derived.Test.YtafjmedjaepimaaChecked
import Derived.Test.YtafjmedjaepimaaRows
import Derived.Test.YtafjmedjaepimaaKit6
import Derived.Deep.RegionLaw
namespace Go.Proofs.Ytafjmedjaepimaa.acceptPlays
open Go.ChangeShapes Go.WideShapes Go.ChangeAt Go.RowKit Go.Joins
open Go.Proofs.Ytafjmedjaepimaa.kit Go.Proofs.Ytafjmedjaepimaa.mapkit Go.Proofs.Ytafjmedjaepimaa.byt Go.Proofs.Ytafjmedjaepimaa.own Go.Proofs.Ytafjmedjaepimaa.accd Go.Proofs.Ytafjmedjaepimaa.acca Go.Proofs.Ytafjmedjaepimaa.accb Go.Proofs.Ytafjmedjaepimaa.acck Go.Proofs.Ytafjmedjaepimaa.acce Go.Proofs.Ytafjmedjaepimaa.accf Go.Proofs.Ytafjmedjaepimaa.accg Go.Proofs.Ytafjmedjaepimaa.acch Go.Proofs.Ytafjmedjaepimaa.acci Go.Proofs.Ytafjmedjaepimaa.accj Go.Proofs.Ytafjmedjaepimaa.accr Go.Proofs.Ytafjmedjaepimaa.accl Go.Proofs.Ytafjmedjaepimaa.acct Go.Proofs.Ytafjmedjaepimaa.accu Go.Proofs.Ytafjmedjaepimaa.accv Go.Proofs.Ytafjmedjaepimaa.accw Go.Proofs.Ytafjmedjaepimaa.accx Go.Proofs.Ytafjmedjaepimaa.accy
set_option linter.unusedVariables false
set_option linter.unusedSimpArgs false
set_option maxHeartbeats 4000000
set_option maxRecDepth 100000

theorem neBallot (w : World) (a b c d : Int) : (binOp .neq 28 (.agg #[.int .i64 a, .int .i64 b]) (.agg #[.int .i64 c, .int .i64 d])).run Try.prog w = .ok (.bool (!(a == c && b == d))) w := by
  cases h : (a == c) <;> cases h2 : (b == d) <;> go_simp
theorem first_b (w : World) (base b mb : Nat) (A : AS) (h : AccIs w base b mb A) : Calls Try.prog 18 #[.pointer (some ⟨b, 0, none⟩)] w fun e w' => e = .returned (.int .i64 A.first) ∧ Below w.heap.size w w' := by
  refine (first_ok w base b mb A h).mono ?_
  rintro e w' ⟨rfl, rfl⟩
  exact ⟨rfl, Below.refl _ _⟩

theorem plays_ok (w : World) (a : Option Addr) (l : List OpV) (cap : Nat) (hl : l.length ≤ 9223372036854775807) (hat : RowsAt w a 5 (l.map ocells)) (hok : ∀ k (hk : k < l.length), GoodO w (l[k])) (hol : ∀ k (hk : k < l.length), (l[k]).l.length ≤ 140737488351232) :
    Calls Try.prog 4 #[.slice a l.length cap] w fun e w' => e = .returned (.bool true) ∧ Below w.heap.size w w' := by
  have HR := Lib.hid (fun (wr : World) (hb : Below w.heap.size w wr) k hk => row_op (hat.below hb) k hk)
  have HOK := Lib.hid hok
  have HOL := Lib.hid hol
  have HN := Lib.hid (newA_ok w)
  have HRN := Lib.hid (fun wx => rnew_ok w wx)
  clear hat hok hol
  go_enter Try.func4, Try.ntmps4
  go_wp2_with fail
  refine HN.out.mono ?_; rintro e w1 ⟨rfl, hA1, hb1⟩
  have HA1 := Lib.hid hA1
  have HB1 := Lib.hid hb1
  clear hA1 hb1 HN
  go_wp2_with fail
  refine (HRN.out w1).mono ?_; rintro e w2 ⟨rfl, hR2, hb2⟩
  obtain ⟨b, hbdef⟩ : ∃ b, b = w.heap.size + 1 := ⟨_, rfl⟩
  obtain ⟨mb, hmdef⟩ : ∃ mb, mb = w.heap.size := ⟨_, rfl⟩
  obtain ⟨br, hbr⟩ : ∃ br, br = w1.heap.size := ⟨_, rfl⟩
  have HT2 : Hid (TwoS w w2 b mb br startS) := by
    have hs1 := HB1.out.size
    refine ⟨by rw [hbdef, hmdef]; exact AccIs.below HA1.out hb2, ?_, below_step HB1.out hb2, by omega, by omega⟩
    obtain ⟨h0, a0, c0, xs, h1, h2, h3, h4⟩ := hR2
    rw [hbr]
    exact ⟨hs1, a0, c0, xs, h1, own_mono h2 hs1, h3, h4⟩
  rw [← hbdef, ← hbr]
  clear hR2 hb2 HRN HA1 HB1 hbdef hmdef hbr
  go_wp2_with fail
  refine (awake_any w2).mono ?_; rintro e w3 ⟨rfl, hb3⟩
  have HT3 := Lib.hid (HT2.out.old hb3)
  clear hb3 HT2
  go_wp2_with fail
  go_loopw [5] (fun i wr => ∃ k : Nat, k ≤ l.length ∧ i = .int .i64 k ∧ Hid (TwoS w wr b mb br (stOf startS (l.take k)))) (fun i _ => l.length - (intOf i).toNat)
  case atStart => exact ⟨0, Nat.zero_le _, rfl, HT3⟩
  case round =>
    obtain ⟨k, hk, rfl, hT⟩ := hrel
    by_cases hlt : k < l.length
    · obtain ⟨g, off, rfl, hgz, r0, r1, r2, r3, r4⟩ := HR.out wr hT.out.below k hlt
      have HSN := Lib.hid (stOf_snoc startS l k hlt)
      have hGO := HOK.out k hlt
      have hLO := HOL.out k hlt
      obtain ⟨o, ho⟩ : ∃ o, o = l[k] := ⟨_, rfl⟩
      rw [← ho] at r0 r1 r2 r3 r4 HSN hGO hLO
      obtain ⟨A, hA⟩ : ∃ A, A = stOf startS (l.take k) := ⟨_, rfl⟩
      rw [← hA] at hT HSN
      obtain ⟨A', hA'⟩ : ∃ A', A' = stOf startS (l.take (k + 1)) := ⟨_, rfl⟩
      rw [← hA'] at HSN
      have HREL := Lib.hid (fun wz (h : Hid (TwoS w wz b mb br A')) => (by rw [← hA']; exact h : Hid (TwoS w wz b mb br (stOf startS (l.take (k + 1))))))
      have HST := Lib.hid (step_any w wr.drew b mb br A o (hT.out.old (below_drewN (Below.refl _ wr) 1)) hGO hLO)
      have hqe : ∀ w, (binOp .neq 28 (.agg #[.int .i64 A'.r, .int .i64 A'.n]) (.agg #[.int .i64 A'.r, .int .i64 A'.n])).run Try.prog w = .ok (.bool false) w := by
        intro w
        have h := neBallot w A'.r A'.n A'.r A'.n
        simpa only [beq_self_eq_true, Bool.and_self, Bool.not_true] using h
      clear ho hA hA' hGO hLO
      go_wp2_with fail
      refine wp_region_held_drew (S := (fun w' => True)) (by kernel_rfl) trivial (fun hHeld => ?_)
      refine kit6.take_y (i := 0) (v := ?_) rfl (by kernel_rfl) (by kernel_rfl) (by kernel_rfl) (fun _ _ _ h => h) (by rfl) (by assumption) ?_ ?_
      rotate_left
      · intro w hSw
        try dsimp only at hSw
        go_simp
        try with_reducible rfl
      try simp only [Act.put, List.setIfInBounds_toArray, List.set_cons_zero, List.set_cons_succ]
      refine kit6.take_y (i := 1) (v := ?_) rfl (by kernel_rfl) (by kernel_rfl) (by kernel_rfl) (fun _ _ _ h => h) (by rfl) (by assumption) ?_ ?_
      rotate_left
      · intro w hSw
        try dsimp only at hSw
        go_simp
        try with_reducible rfl
      try simp only [Act.put, List.setIfInBounds_toArray, List.set_cons_zero, List.set_cons_succ]
      refine kit6.take_y (i := 2) (v := ?_) rfl (by kernel_rfl) (by kernel_rfl) (by kernel_rfl) (fun _ _ _ h => h) (by rfl) (by assumption) ?_ ?_
      rotate_left
      · intro w hSw
        try dsimp only at hSw
        go_simp
        try with_reducible rfl
      try simp only [Act.put, List.setIfInBounds_toArray, List.set_cons_zero, List.set_cons_succ]
      refine kit6.take_y (i := 3) (v := ?_) rfl (by kernel_rfl) (by kernel_rfl) (by kernel_rfl) (fun _ _ _ h => h) (by rfl) (by assumption) ?_ ?_
      rotate_left
      · intro w hSw
        try dsimp only at hSw
        go_simp
        try with_reducible rfl
      try simp only [Act.put, List.setIfInBounds_toArray, List.set_cons_zero, List.set_cons_succ]
      refine kit6.take_y (i := 4) (v := ?_) rfl (by kernel_rfl) (by kernel_rfl) (by kernel_rfl) (fun _ _ _ h => h) (by rfl) (by assumption) ?_ ?_
      rotate_left
      · intro w hSw
        try dsimp only at hSw
        go_simp
        try with_reducible rfl
      try simp only [Act.put, List.setIfInBounds_toArray, List.set_cons_zero, List.set_cons_succ]
      refine wpAnyH_ready (rs := [5]) (by kernel_rfl) (by simp) ?_
      refine kit6.cons_l (i := 5) rfl (by rfl) (fun K hK => ?_) AllReadyH.nil
      go_simp
      refine hK.out _ _ trivial (fun hHeld => ?_)
      clear hK K
      try simp only [Act.put, List.setIfInBounds_toArray, List.set_cons_zero, List.set_cons_succ]
      refine wpAnyH_ready (rs := [6]) (by kernel_rfl) (by simp) ?_
      refine kit6.cons_l (i := 6) rfl (by rfl) (fun K hK => ?_) AllReadyH.nil
      go_simp
      go_at_call 20; refine HST.out.mono ?_; rintro e w5 ⟨rfl, hT5⟩; rw [← HSN.out] at hT5; have HT5 := Lib.hid hT5; obtain ⟨-, ar, cr, zs, hblk, hrow, hzs, hzr⟩ := hT5.ref; have HBLK := Lib.hid hblk; have HROW := Lib.hid hrow; have HZS := Lib.hid hzs; have HZR := Lib.hid hzr; obtain ⟨c0, c1, c2, c3, cz⟩ := blk4 hblk; clear hT5 hblk hrow hzs hzr
      dsimp only
      refine hK.out _ _ trivial (fun hHeld => ?_)
      clear hK K
      try simp only [Act.put, List.setIfInBounds_toArray, List.set_cons_zero, List.set_cons_succ]
      refine kit6.take_y (i := 7) (v := ?_) rfl (by kernel_rfl) (by kernel_rfl) (by kernel_rfl) (fun _ _ _ h => h) (by rfl) (by assumption) ?_ ?_
      rotate_left
      · intro w hSw
        try dsimp only at hSw
        go_simp
        try with_reducible rfl
      try simp only [Act.put, List.setIfInBounds_toArray, List.set_cons_zero, List.set_cons_succ]
      refine kit6.take_y (i := 8) (v := ?_) rfl (by kernel_rfl) (by kernel_rfl) (by kernel_rfl) (fun _ _ _ h => h) (by rfl) (by assumption) ?_ ?_
      rotate_left
      · intro w hSw
        try dsimp only at hSw
        go_simp
        try with_reducible rfl
      try simp only [Act.put, List.setIfInBounds_toArray, List.set_cons_zero, List.set_cons_succ]
      refine kit6.take_y (i := 9) (v := ?_) rfl (by kernel_rfl) (by kernel_rfl) (by kernel_rfl) (fun _ _ _ h => h) (by rfl) (by assumption) ?_ ?_
      rotate_left
      · intro w hSw
        try dsimp only at hSw
        go_simp
        try with_reducible rfl
      try simp only [Act.put, List.setIfInBounds_toArray, List.set_cons_zero, List.set_cons_succ]
      refine kit6.take_y (i := 11) (v := ?_) rfl (by kernel_rfl) (by kernel_rfl) (by kernel_rfl) (fun _ _ _ h => h) (by rfl) (by assumption) ?_ ?_
      rotate_left
      · intro w hSw
        try dsimp only at hSw
        go_simp
        try with_reducible rfl
      try simp only [Act.put, List.setIfInBounds_toArray, List.set_cons_zero, List.set_cons_succ]
      refine kit6.take_y (i := 12) (v := ?_) rfl (by kernel_rfl) (by kernel_rfl) (by kernel_rfl) (fun _ _ _ h => h) (by rfl) (by assumption) ?_ ?_
      rotate_left
      · intro w hSw
        try dsimp only at hSw
        go_simp
        try with_reducible rfl
      try simp only [Act.put, List.setIfInBounds_toArray, List.set_cons_zero, List.set_cons_succ]
      refine kit6.take_y (i := 13) (v := ?_) rfl (by kernel_rfl) (by kernel_rfl) (by kernel_rfl) (fun _ _ _ h => h) (by rfl) (by assumption) ?_ ?_
      rotate_left
      · intro w hSw
        try dsimp only at hSw
        go_simp
        try with_reducible rfl
      try simp only [Act.put, List.setIfInBounds_toArray, List.set_cons_zero, List.set_cons_succ]
      refine wpAnyH_ready (rs := [10, 14]) (by kernel_rfl) (by simp) ?_
      refine kit6.cons_l (i := 10) rfl (by rfl) (fun K hK => ?_) ?_
      · go_simp
        go_at_call 21; refine (promised_ok _ _ _ _ _ HT5.out.acc).mono ?_; rintro e w6 ⟨rfl, hb6⟩; have HB6 := Lib.hid hb6; obtain ⟨d0, d1, d2, d3, dz⟩ := blk4 (hp_step HBLK.out hb6); clear hb6
        dsimp only
        refine hK.out _ _ trivial (fun hHeld => ?_)
        clear hK K
        try simp only [Act.put, List.setIfInBounds_toArray, List.set_cons_zero, List.set_cons_succ]
        refine wpAnyH_ready (rs := [14]) (by kernel_rfl) (by simp) ?_
        refine kit6.cons_l (i := 14) rfl (by rfl) (fun K hK => ?_) AllReadyH.nil
        go_simp
        refine hK.out _ _ trivial (fun hHeld => ?_)
        clear hK K
        try simp only [Act.put, List.setIfInBounds_toArray, List.set_cons_zero, List.set_cons_succ]
        refine kit6.take_y (i := 15) (v := ?_) rfl (by kernel_rfl) (by kernel_rfl) (by kernel_rfl) (fun _ _ _ h => h) (by rfl) (by assumption) ?_ ?_
        rotate_left
        · intro w hSw
          try dsimp only at hSw
          go_simp
          try with_reducible rfl
        try simp only [Act.put, List.setIfInBounds_toArray, List.set_cons_zero, List.set_cons_succ]
        refine kit6.take_y (i := 16) (v := ?_) rfl (by kernel_rfl) (by kernel_rfl) (by kernel_rfl) (fun _ _ _ h => h) (by rfl) (by assumption) ?_ ?_
        rotate_left
        · intro w hSw
          try dsimp only at hSw
          go_simp
          try with_reducible rfl
        try simp only [Act.put, List.setIfInBounds_toArray, List.set_cons_zero, List.set_cons_succ]
        refine kit6.take_y (i := 17) (v := ?_) rfl (by kernel_rfl) (by kernel_rfl) (by kernel_rfl) (fun _ _ _ h => h) (by rfl) (by assumption) ?_ ?_
        rotate_left
        · intro w hSw
          try dsimp only at hSw
          go_simp
          try with_reducible rfl
        try simp only [Act.put, List.setIfInBounds_toArray, List.set_cons_zero, List.set_cons_succ]
        refine kit6.take_y (i := 18) (v := ?_) rfl (by kernel_rfl) (by kernel_rfl) (by kernel_rfl) (fun _ _ _ h => h) (by rfl) (by assumption) ?_ ?_
        rotate_left
        · intro w hSw
          try dsimp only at hSw
          go_simp
          try with_reducible rfl
        try simp only [Act.put, List.setIfInBounds_toArray, List.set_cons_zero, List.set_cons_succ]
        refine kit6.take_y (i := 20) (v := ?_) rfl (by kernel_rfl) (by kernel_rfl) (by kernel_rfl) (fun _ _ _ h => h) (by rfl) (by assumption) ?_ ?_
        rotate_left
        · intro w hSw
          try dsimp only at hSw
          go_simp
          try with_reducible rfl
        try simp only [Act.put, List.setIfInBounds_toArray, List.set_cons_zero, List.set_cons_succ]
        refine kit6.take_y (i := 21) (v := ?_) rfl (by kernel_rfl) (by kernel_rfl) (by kernel_rfl) (fun _ _ _ h => h) (by rfl) (by assumption) ?_ ?_
        rotate_left
        · intro w hSw
          try dsimp only at hSw
          go_simp
          try with_reducible rfl
        try simp only [Act.put, List.setIfInBounds_toArray, List.set_cons_zero, List.set_cons_succ]
        refine kit6.take_y (i := 22) (v := ?_) rfl (by kernel_rfl) (by kernel_rfl) (by kernel_rfl) (fun _ _ _ h => h) (by rfl) (by assumption) ?_ ?_
        rotate_left
        · intro w hSw
          try dsimp only at hSw
          go_simp
          try with_reducible rfl
        try simp only [Act.put, List.setIfInBounds_toArray, List.set_cons_zero, List.set_cons_succ]
        refine wpAnyH_ready (rs := [19, 23]) (by kernel_rfl) (by simp) ?_
        refine kit6.cons_l (i := 19) rfl (by rfl) (fun K hK => ?_) ?_
        · go_simp
          go_at_call 18; refine (first_b _ _ _ _ _ (AccIs.below HT5.out.acc HB6.out)).mono ?_; rintro e w7 ⟨rfl, hb7⟩; have HB7 := Lib.hid (below_step HB6.out hb7); obtain ⟨f0, f1, f2, f3, fz⟩ := blk4 (hp_step HBLK.out HB7.out); clear hb7
          dsimp only
          refine hK.out _ _ trivial (fun hHeld => ?_)
          clear hK K
          try simp only [Act.put, List.setIfInBounds_toArray, List.set_cons_zero, List.set_cons_succ]
          refine wpAnyH_ready (rs := [23]) (by kernel_rfl) (by simp) ?_
          refine kit6.cons_l (i := 23) rfl (by rfl) (fun K hK => ?_) AllReadyH.nil
          go_simp
          refine hK.out _ _ trivial (fun hHeld => ?_)
          clear hK K
          try simp only [Act.put, List.setIfInBounds_toArray, List.set_cons_zero, List.set_cons_succ]
          refine kit6.take_y (i := 24) (v := ?_) rfl (by kernel_rfl) (by kernel_rfl) (by kernel_rfl) (fun _ _ _ h => h) (by rfl) (by assumption) ?_ ?_
          rotate_left
          · intro w hSw
            try dsimp only at hSw
            go_simp
            try with_reducible rfl
          try simp only [Act.put, List.setIfInBounds_toArray, List.set_cons_zero, List.set_cons_succ]
          refine kit6.take_y (i := 25) (v := ?_) rfl (by kernel_rfl) (by kernel_rfl) (by kernel_rfl) (fun _ _ _ h => h) (by rfl) (by assumption) ?_ ?_
          rotate_left
          · intro w hSw
            try dsimp only at hSw
            go_simp
            try with_reducible rfl
          try simp only [Act.put, List.setIfInBounds_toArray, List.set_cons_zero, List.set_cons_succ]
          refine kit6.take_y (i := 26) (v := ?_) rfl (by kernel_rfl) (by kernel_rfl) (by kernel_rfl) (fun _ _ _ h => h) (by rfl) (by assumption) ?_ ?_
          rotate_left
          · intro w hSw
            try dsimp only at hSw
            go_simp
            try with_reducible rfl
          try simp only [Act.put, List.setIfInBounds_toArray, List.set_cons_zero, List.set_cons_succ]
          refine kit6.take_y (i := 27) (v := ?_) rfl (by kernel_rfl) (by kernel_rfl) (by kernel_rfl) (fun _ _ _ h => h) (by rfl) (by assumption) ?_ ?_
          rotate_left
          · intro w hSw
            try dsimp only at hSw
            go_simp
            try with_reducible rfl
          try simp only [Act.put, List.setIfInBounds_toArray, List.set_cons_zero, List.set_cons_succ]
          refine kit6.take_y (i := 29) (v := ?_) rfl (by kernel_rfl) (by kernel_rfl) (by kernel_rfl) (fun _ _ _ h => h) (by rfl) (by assumption) ?_ ?_
          rotate_left
          · intro w hSw
            try dsimp only at hSw
            go_simp
            try with_reducible rfl
          try simp only [Act.put, List.setIfInBounds_toArray, List.set_cons_zero, List.set_cons_succ]
          refine kit6.take_y (i := 30) (v := ?_) rfl (by kernel_rfl) (by kernel_rfl) (by kernel_rfl) (fun _ _ _ h => h) (by rfl) (by assumption) ?_ ?_
          rotate_left
          · intro w hSw
            try dsimp only at hSw
            go_simp
            try with_reducible rfl
          try simp only [Act.put, List.setIfInBounds_toArray, List.set_cons_zero, List.set_cons_succ]
          refine kit6.take_y (i := 31) (v := ?_) rfl (by kernel_rfl) (by kernel_rfl) (by kernel_rfl) (fun _ _ _ h => h) (by rfl) (by assumption) ?_ ?_
          rotate_left
          · intro w hSw
            try dsimp only at hSw
            go_simp
            try with_reducible rfl
          try simp only [Act.put, List.setIfInBounds_toArray, List.set_cons_zero, List.set_cons_succ]
          refine wpAnyH_ready (rs := [28, 32]) (by kernel_rfl) (by simp) ?_
          refine kit6.cons_l (i := 28) rfl (by rfl) (fun K hK => ?_) ?_
          · go_simp
            go_at_call 16; refine (votes_row _ _ _ _ _ (AccIs.below HT5.out.acc HB7.out)).mono ?_; rintro e w8 ⟨av, cv, vs9, rfl, hrv9, hvs9, hb8⟩; have HB8 := Lib.hid (below_step HB7.out hb8); have HRV9 := Lib.hid hrv9; have HVS9 := Lib.hid hvs9; obtain ⟨m0, m1, m2, m3, mz⟩ := blk4 (hp_step HBLK.out HB8.out); clear hb8 hrv9 hvs9
            dsimp only
            refine hK.out _ _ trivial (fun hHeld => ?_)
            clear hK K
            try simp only [Act.put, List.setIfInBounds_toArray, List.set_cons_zero, List.set_cons_succ]
            refine wpAnyH_ready (rs := [32]) (by kernel_rfl) (by simp) ?_
            refine kit6.cons_l (i := 32) rfl (by rfl) (fun K hK => ?_) AllReadyH.nil
            go_simp
            refine hK.out _ _ trivial (fun hHeld => ?_)
            clear hK K
            try simp only [Act.put, List.setIfInBounds_toArray, List.set_cons_zero, List.set_cons_succ]
            refine wpAnyH_ready (rs := [33]) (by kernel_rfl) (by simp) ?_
            refine kit6.cons_l (i := 33) rfl (by rfl) (fun K hK => ?_) AllReadyH.nil
            go_simp
            go_at_call 22; refine (votes_eq _ _ _ vs9 zs HRV9.out ⟨⟨_, ar, cr, rfl, own_below HROW.out HB8.out⟩, fun x hx => (HZR.out x hx).below (below_step HT5.out.below HB8.out)⟩ (HVS9.out.trans HZS.out.symm)).mono ?_; rintro e w9 ⟨rfl, hb9⟩; have HB9 := Lib.hid (below_step HB8.out hb9); clear hb9
            dsimp only
            refine hK.out _ _ trivial (fun hHeld => ?_)
            clear hK K
            try simp only [Act.put, List.setIfInBounds_toArray, List.set_cons_zero, List.set_cons_succ]
            refine kit6.take_y (i := 34) (v := ?_) rfl (by kernel_rfl) (by kernel_rfl) (by kernel_rfl) (fun _ _ _ h => h) (by rfl) (by assumption) ?_ ?_
            rotate_left
            · intro w hSw
              try dsimp only at hSw
              go_simp
              try with_reducible rfl
            try simp only [Act.put, List.setIfInBounds_toArray, List.set_cons_zero, List.set_cons_succ]
            refine kit6.take_y (i := 35) (v := ?_) rfl (by kernel_rfl) (by kernel_rfl) (by kernel_rfl) (fun _ _ _ h => h) (by rfl) (by assumption) ?_ ?_
            rotate_left
            · intro w hSw
              try dsimp only at hSw
              go_simp
              try with_reducible rfl
            try simp only [Act.put, List.setIfInBounds_toArray, List.set_cons_zero, List.set_cons_succ]
            refine wpAnyH_done (by kernel_rfl) ?_ _
            have HT9 := Lib.hid (HREL.out _ (HT5.out.old HB9.out))
            go_wp2_with fail
            go_roundw
            case rel => exact ⟨k + 1, by omega, by go_num, HT9⟩
            case measure => simp [intOf]; omega
          refine kit6.cons_l (i := 32) rfl (by rfl) (fun K hK => ?_) AllReadyH.nil
          go_simp
          refine hK.out _ _ trivial (fun hHeld => ?_)
          clear hK K
          try simp only [Act.put, List.setIfInBounds_toArray, List.set_cons_zero, List.set_cons_succ]
          refine wpAnyH_ready (rs := [28]) (by kernel_rfl) (by simp) ?_
          refine kit6.cons_l (i := 28) rfl (by rfl) (fun K hK => ?_) AllReadyH.nil
          go_simp
          go_at_call 16; refine (votes_row _ _ _ _ _ (AccIs.below HT5.out.acc HB7.out)).mono ?_; rintro e w8 ⟨av, cv, vs9, rfl, hrv9, hvs9, hb8⟩; have HB8 := Lib.hid (below_step HB7.out hb8); have HRV9 := Lib.hid hrv9; have HVS9 := Lib.hid hvs9; obtain ⟨m0, m1, m2, m3, mz⟩ := blk4 (hp_step HBLK.out HB8.out); clear hb8 hrv9 hvs9
          dsimp only
          refine hK.out _ _ trivial (fun hHeld => ?_)
          clear hK K
          try simp only [Act.put, List.setIfInBounds_toArray, List.set_cons_zero, List.set_cons_succ]
          refine wpAnyH_ready (rs := [33]) (by kernel_rfl) (by simp) ?_
          refine kit6.cons_l (i := 33) rfl (by rfl) (fun K hK => ?_) AllReadyH.nil
          go_simp
          go_at_call 22; refine (votes_eq _ _ _ vs9 zs HRV9.out ⟨⟨_, ar, cr, rfl, own_below HROW.out HB8.out⟩, fun x hx => (HZR.out x hx).below (below_step HT5.out.below HB8.out)⟩ (HVS9.out.trans HZS.out.symm)).mono ?_; rintro e w9 ⟨rfl, hb9⟩; have HB9 := Lib.hid (below_step HB8.out hb9); clear hb9
          dsimp only
          refine hK.out _ _ trivial (fun hHeld => ?_)
          clear hK K
          try simp only [Act.put, List.setIfInBounds_toArray, List.set_cons_zero, List.set_cons_succ]
          refine kit6.take_y (i := 34) (v := ?_) rfl (by kernel_rfl) (by kernel_rfl) (by kernel_rfl) (fun _ _ _ h => h) (by rfl) (by assumption) ?_ ?_
          rotate_left
          · intro w hSw
            try dsimp only at hSw
            go_simp
            try with_reducible rfl
          try simp only [Act.put, List.setIfInBounds_toArray, List.set_cons_zero, List.set_cons_succ]
          refine kit6.take_y (i := 35) (v := ?_) rfl (by kernel_rfl) (by kernel_rfl) (by kernel_rfl) (fun _ _ _ h => h) (by rfl) (by assumption) ?_ ?_
          rotate_left
          · intro w hSw
            try dsimp only at hSw
            go_simp
            try with_reducible rfl
          try simp only [Act.put, List.setIfInBounds_toArray, List.set_cons_zero, List.set_cons_succ]
          refine wpAnyH_done (by kernel_rfl) ?_ _
          have HT9 := Lib.hid (HREL.out _ (HT5.out.old HB9.out))
          go_wp2_with fail
          go_roundw
          case rel => exact ⟨k + 1, by omega, by go_num, HT9⟩
          case measure => simp [intOf]; omega
        refine kit6.cons_l (i := 23) rfl (by rfl) (fun K hK => ?_) AllReadyH.nil
        go_simp
        refine hK.out _ _ trivial (fun hHeld => ?_)
        clear hK K
        try simp only [Act.put, List.setIfInBounds_toArray, List.set_cons_zero, List.set_cons_succ]
        refine wpAnyH_ready (rs := [19]) (by kernel_rfl) (by simp) ?_
        refine kit6.cons_l (i := 19) rfl (by rfl) (fun K hK => ?_) AllReadyH.nil
        go_simp
        go_at_call 18; refine (first_b _ _ _ _ _ (AccIs.below HT5.out.acc HB6.out)).mono ?_; rintro e w7 ⟨rfl, hb7⟩; have HB7 := Lib.hid (below_step HB6.out hb7); obtain ⟨f0, f1, f2, f3, fz⟩ := blk4 (hp_step HBLK.out HB7.out); clear hb7
        dsimp only
        refine hK.out _ _ trivial (fun hHeld => ?_)
        clear hK K
        try simp only [Act.put, List.setIfInBounds_toArray, List.set_cons_zero, List.set_cons_succ]
        refine kit6.take_y (i := 24) (v := ?_) rfl (by kernel_rfl) (by kernel_rfl) (by kernel_rfl) (fun _ _ _ h => h) (by rfl) (by assumption) ?_ ?_
        rotate_left
        · intro w hSw
          try dsimp only at hSw
          go_simp
          try with_reducible rfl
        try simp only [Act.put, List.setIfInBounds_toArray, List.set_cons_zero, List.set_cons_succ]
        refine kit6.take_y (i := 25) (v := ?_) rfl (by kernel_rfl) (by kernel_rfl) (by kernel_rfl) (fun _ _ _ h => h) (by rfl) (by assumption) ?_ ?_
        rotate_left
        · intro w hSw
          try dsimp only at hSw
          go_simp
          try with_reducible rfl
        try simp only [Act.put, List.setIfInBounds_toArray, List.set_cons_zero, List.set_cons_succ]
        refine kit6.take_y (i := 26) (v := ?_) rfl (by kernel_rfl) (by kernel_rfl) (by kernel_rfl) (fun _ _ _ h => h) (by rfl) (by assumption) ?_ ?_
        rotate_left
        · intro w hSw
          try dsimp only at hSw
          go_simp
          try with_reducible rfl
        try simp only [Act.put, List.setIfInBounds_toArray, List.set_cons_zero, List.set_cons_succ]
        refine kit6.take_y (i := 27) (v := ?_) rfl (by kernel_rfl) (by kernel_rfl) (by kernel_rfl) (fun _ _ _ h => h) (by rfl) (by assumption) ?_ ?_
        rotate_left
        · intro w hSw
          try dsimp only at hSw
          go_simp
          try with_reducible rfl
        try simp only [Act.put, List.setIfInBounds_toArray, List.set_cons_zero, List.set_cons_succ]
        refine kit6.take_y (i := 29) (v := ?_) rfl (by kernel_rfl) (by kernel_rfl) (by kernel_rfl) (fun _ _ _ h => h) (by rfl) (by assumption) ?_ ?_
        rotate_left
        · intro w hSw
          try dsimp only at hSw
          go_simp
          try with_reducible rfl
        try simp only [Act.put, List.setIfInBounds_toArray, List.set_cons_zero, List.set_cons_succ]
        refine kit6.take_y (i := 30) (v := ?_) rfl (by kernel_rfl) (by kernel_rfl) (by kernel_rfl) (fun _ _ _ h => h) (by rfl) (by assumption) ?_ ?_
        rotate_left
        · intro w hSw
          try dsimp only at hSw
          go_simp
          try with_reducible rfl
        try simp only [Act.put, List.setIfInBounds_toArray, List.set_cons_zero, List.set_cons_succ]
        refine kit6.take_y (i := 31) (v := ?_) rfl (by kernel_rfl) (by kernel_rfl) (by kernel_rfl) (fun _ _ _ h => h) (by rfl) (by assumption) ?_ ?_
        rotate_left
        · intro w hSw
          try dsimp only at hSw
          go_simp
          try with_reducible rfl
        try simp only [Act.put, List.setIfInBounds_toArray, List.set_cons_zero, List.set_cons_succ]
        refine wpAnyH_ready (rs := [28, 32]) (by kernel_rfl) (by simp) ?_
        refine kit6.cons_l (i := 28) rfl (by rfl) (fun K hK => ?_) ?_
        · go_simp
          go_at_call 16; refine (votes_row _ _ _ _ _ (AccIs.below HT5.out.acc HB7.out)).mono ?_; rintro e w8 ⟨av, cv, vs9, rfl, hrv9, hvs9, hb8⟩; have HB8 := Lib.hid (below_step HB7.out hb8); have HRV9 := Lib.hid hrv9; have HVS9 := Lib.hid hvs9; obtain ⟨m0, m1, m2, m3, mz⟩ := blk4 (hp_step HBLK.out HB8.out); clear hb8 hrv9 hvs9
          dsimp only
          refine hK.out _ _ trivial (fun hHeld => ?_)
          clear hK K
          try simp only [Act.put, List.setIfInBounds_toArray, List.set_cons_zero, List.set_cons_succ]
          refine wpAnyH_ready (rs := [32]) (by kernel_rfl) (by simp) ?_
          refine kit6.cons_l (i := 32) rfl (by rfl) (fun K hK => ?_) AllReadyH.nil
          go_simp
          refine hK.out _ _ trivial (fun hHeld => ?_)
          clear hK K
          try simp only [Act.put, List.setIfInBounds_toArray, List.set_cons_zero, List.set_cons_succ]
          refine wpAnyH_ready (rs := [33]) (by kernel_rfl) (by simp) ?_
          refine kit6.cons_l (i := 33) rfl (by rfl) (fun K hK => ?_) AllReadyH.nil
          go_simp
          go_at_call 22; refine (votes_eq _ _ _ vs9 zs HRV9.out ⟨⟨_, ar, cr, rfl, own_below HROW.out HB8.out⟩, fun x hx => (HZR.out x hx).below (below_step HT5.out.below HB8.out)⟩ (HVS9.out.trans HZS.out.symm)).mono ?_; rintro e w9 ⟨rfl, hb9⟩; have HB9 := Lib.hid (below_step HB8.out hb9); clear hb9
          dsimp only
          refine hK.out _ _ trivial (fun hHeld => ?_)
          clear hK K
          try simp only [Act.put, List.setIfInBounds_toArray, List.set_cons_zero, List.set_cons_succ]
          refine kit6.take_y (i := 34) (v := ?_) rfl (by kernel_rfl) (by kernel_rfl) (by kernel_rfl) (fun _ _ _ h => h) (by rfl) (by assumption) ?_ ?_
          rotate_left
          · intro w hSw
            try dsimp only at hSw
            go_simp
            try with_reducible rfl
          try simp only [Act.put, List.setIfInBounds_toArray, List.set_cons_zero, List.set_cons_succ]
          refine kit6.take_y (i := 35) (v := ?_) rfl (by kernel_rfl) (by kernel_rfl) (by kernel_rfl) (fun _ _ _ h => h) (by rfl) (by assumption) ?_ ?_
          rotate_left
          · intro w hSw
            try dsimp only at hSw
            go_simp
            try with_reducible rfl
          try simp only [Act.put, List.setIfInBounds_toArray, List.set_cons_zero, List.set_cons_succ]
          refine wpAnyH_done (by kernel_rfl) ?_ _
          have HT9 := Lib.hid (HREL.out _ (HT5.out.old HB9.out))
          go_wp2_with fail
          go_roundw
          case rel => exact ⟨k + 1, by omega, by go_num, HT9⟩
          case measure => simp [intOf]; omega
        refine kit6.cons_l (i := 32) rfl (by rfl) (fun K hK => ?_) AllReadyH.nil
        go_simp
        refine hK.out _ _ trivial (fun hHeld => ?_)
        clear hK K
        try simp only [Act.put, List.setIfInBounds_toArray, List.set_cons_zero, List.set_cons_succ]
        refine wpAnyH_ready (rs := [28]) (by kernel_rfl) (by simp) ?_
        refine kit6.cons_l (i := 28) rfl (by rfl) (fun K hK => ?_) AllReadyH.nil
        go_simp
        go_at_call 16; refine (votes_row _ _ _ _ _ (AccIs.below HT5.out.acc HB7.out)).mono ?_; rintro e w8 ⟨av, cv, vs9, rfl, hrv9, hvs9, hb8⟩; have HB8 := Lib.hid (below_step HB7.out hb8); have HRV9 := Lib.hid hrv9; have HVS9 := Lib.hid hvs9; obtain ⟨m0, m1, m2, m3, mz⟩ := blk4 (hp_step HBLK.out HB8.out); clear hb8 hrv9 hvs9
        dsimp only
        refine hK.out _ _ trivial (fun hHeld => ?_)
        clear hK K
        try simp only [Act.put, List.setIfInBounds_toArray, List.set_cons_zero, List.set_cons_succ]
        refine wpAnyH_ready (rs := [33]) (by kernel_rfl) (by simp) ?_
        refine kit6.cons_l (i := 33) rfl (by rfl) (fun K hK => ?_) AllReadyH.nil
        go_simp
        go_at_call 22; refine (votes_eq _ _ _ vs9 zs HRV9.out ⟨⟨_, ar, cr, rfl, own_below HROW.out HB8.out⟩, fun x hx => (HZR.out x hx).below (below_step HT5.out.below HB8.out)⟩ (HVS9.out.trans HZS.out.symm)).mono ?_; rintro e w9 ⟨rfl, hb9⟩; have HB9 := Lib.hid (below_step HB8.out hb9); clear hb9
        dsimp only
        refine hK.out _ _ trivial (fun hHeld => ?_)
        clear hK K
        try simp only [Act.put, List.setIfInBounds_toArray, List.set_cons_zero, List.set_cons_succ]
        refine kit6.take_y (i := 34) (v := ?_) rfl (by kernel_rfl) (by kernel_rfl) (by kernel_rfl) (fun _ _ _ h => h) (by rfl) (by assumption) ?_ ?_
        rotate_left
        · intro w hSw
          try dsimp only at hSw
          go_simp
          try with_reducible rfl
        try simp only [Act.put, List.setIfInBounds_toArray, List.set_cons_zero, List.set_cons_succ]
        refine kit6.take_y (i := 35) (v := ?_) rfl (by kernel_rfl) (by kernel_rfl) (by kernel_rfl) (fun _ _ _ h => h) (by rfl) (by assumption) ?_ ?_
        rotate_left
        · intro w hSw
          try dsimp only at hSw
          go_simp
          try with_reducible rfl
        try simp only [Act.put, List.setIfInBounds_toArray, List.set_cons_zero, List.set_cons_succ]
        refine wpAnyH_done (by kernel_rfl) ?_ _
        have HT9 := Lib.hid (HREL.out _ (HT5.out.old HB9.out))
        go_wp2_with fail
        go_roundw
        case rel => exact ⟨k + 1, by omega, by go_num, HT9⟩
        case measure => simp [intOf]; omega
      refine kit6.cons_l (i := 14) rfl (by rfl) (fun K hK => ?_) AllReadyH.nil
      go_simp
      refine hK.out _ _ trivial (fun hHeld => ?_)
      clear hK K
      try simp only [Act.put, List.setIfInBounds_toArray, List.set_cons_zero, List.set_cons_succ]
      refine wpAnyH_ready (rs := [10]) (by kernel_rfl) (by simp) ?_
      refine kit6.cons_l (i := 10) rfl (by rfl) (fun K hK => ?_) AllReadyH.nil
      go_simp
      go_at_call 21; refine (promised_ok _ _ _ _ _ HT5.out.acc).mono ?_; rintro e w6 ⟨rfl, hb6⟩; have HB6 := Lib.hid hb6; obtain ⟨d0, d1, d2, d3, dz⟩ := blk4 (hp_step HBLK.out hb6); clear hb6
      dsimp only
      refine hK.out _ _ trivial (fun hHeld => ?_)
      clear hK K
      try simp only [Act.put, List.setIfInBounds_toArray, List.set_cons_zero, List.set_cons_succ]
      refine kit6.take_y (i := 15) (v := ?_) rfl (by kernel_rfl) (by kernel_rfl) (by kernel_rfl) (fun _ _ _ h => h) (by rfl) (by assumption) ?_ ?_
      rotate_left
      · intro w hSw
        try dsimp only at hSw
        go_simp
        try with_reducible rfl
      try simp only [Act.put, List.setIfInBounds_toArray, List.set_cons_zero, List.set_cons_succ]
      refine kit6.take_y (i := 16) (v := ?_) rfl (by kernel_rfl) (by kernel_rfl) (by kernel_rfl) (fun _ _ _ h => h) (by rfl) (by assumption) ?_ ?_
      rotate_left
      · intro w hSw
        try dsimp only at hSw
        go_simp
        try with_reducible rfl
      try simp only [Act.put, List.setIfInBounds_toArray, List.set_cons_zero, List.set_cons_succ]
      refine kit6.take_y (i := 17) (v := ?_) rfl (by kernel_rfl) (by kernel_rfl) (by kernel_rfl) (fun _ _ _ h => h) (by rfl) (by assumption) ?_ ?_
      rotate_left
      · intro w hSw
        try dsimp only at hSw
        go_simp
        try with_reducible rfl
      try simp only [Act.put, List.setIfInBounds_toArray, List.set_cons_zero, List.set_cons_succ]
      refine kit6.take_y (i := 18) (v := ?_) rfl (by kernel_rfl) (by kernel_rfl) (by kernel_rfl) (fun _ _ _ h => h) (by rfl) (by assumption) ?_ ?_
      rotate_left
      · intro w hSw
        try dsimp only at hSw
        go_simp
        try with_reducible rfl
      try simp only [Act.put, List.setIfInBounds_toArray, List.set_cons_zero, List.set_cons_succ]
      refine kit6.take_y (i := 20) (v := ?_) rfl (by kernel_rfl) (by kernel_rfl) (by kernel_rfl) (fun _ _ _ h => h) (by rfl) (by assumption) ?_ ?_
      rotate_left
      · intro w hSw
        try dsimp only at hSw
        go_simp
        try with_reducible rfl
      try simp only [Act.put, List.setIfInBounds_toArray, List.set_cons_zero, List.set_cons_succ]
      refine kit6.take_y (i := 21) (v := ?_) rfl (by kernel_rfl) (by kernel_rfl) (by kernel_rfl) (fun _ _ _ h => h) (by rfl) (by assumption) ?_ ?_
      rotate_left
      · intro w hSw
        try dsimp only at hSw
        go_simp
        try with_reducible rfl
      try simp only [Act.put, List.setIfInBounds_toArray, List.set_cons_zero, List.set_cons_succ]
      refine kit6.take_y (i := 22) (v := ?_) rfl (by kernel_rfl) (by kernel_rfl) (by kernel_rfl) (fun _ _ _ h => h) (by rfl) (by assumption) ?_ ?_
      rotate_left
      · intro w hSw
        try dsimp only at hSw
        go_simp
        try with_reducible rfl
      try simp only [Act.put, List.setIfInBounds_toArray, List.set_cons_zero, List.set_cons_succ]
      refine wpAnyH_ready (rs := [19, 23]) (by kernel_rfl) (by simp) ?_
      refine kit6.cons_l (i := 19) rfl (by rfl) (fun K hK => ?_) ?_
      · go_simp
        go_at_call 18; refine (first_b _ _ _ _ _ (AccIs.below HT5.out.acc HB6.out)).mono ?_; rintro e w7 ⟨rfl, hb7⟩; have HB7 := Lib.hid (below_step HB6.out hb7); obtain ⟨f0, f1, f2, f3, fz⟩ := blk4 (hp_step HBLK.out HB7.out); clear hb7
        dsimp only
        refine hK.out _ _ trivial (fun hHeld => ?_)
        clear hK K
        try simp only [Act.put, List.setIfInBounds_toArray, List.set_cons_zero, List.set_cons_succ]
        refine wpAnyH_ready (rs := [23]) (by kernel_rfl) (by simp) ?_
        refine kit6.cons_l (i := 23) rfl (by rfl) (fun K hK => ?_) AllReadyH.nil
        go_simp
        refine hK.out _ _ trivial (fun hHeld => ?_)
        clear hK K
        try simp only [Act.put, List.setIfInBounds_toArray, List.set_cons_zero, List.set_cons_succ]
        refine kit6.take_y (i := 24) (v := ?_) rfl (by kernel_rfl) (by kernel_rfl) (by kernel_rfl) (fun _ _ _ h => h) (by rfl) (by assumption) ?_ ?_
        rotate_left
        · intro w hSw
          try dsimp only at hSw
          go_simp
          try with_reducible rfl
        try simp only [Act.put, List.setIfInBounds_toArray, List.set_cons_zero, List.set_cons_succ]
        refine kit6.take_y (i := 25) (v := ?_) rfl (by kernel_rfl) (by kernel_rfl) (by kernel_rfl) (fun _ _ _ h => h) (by rfl) (by assumption) ?_ ?_
        rotate_left
        · intro w hSw
          try dsimp only at hSw
          go_simp
          try with_reducible rfl
        try simp only [Act.put, List.setIfInBounds_toArray, List.set_cons_zero, List.set_cons_succ]
        refine kit6.take_y (i := 26) (v := ?_) rfl (by kernel_rfl) (by kernel_rfl) (by kernel_rfl) (fun _ _ _ h => h) (by rfl) (by assumption) ?_ ?_
        rotate_left
        · intro w hSw
          try dsimp only at hSw
          go_simp
          try with_reducible rfl
        try simp only [Act.put, List.setIfInBounds_toArray, List.set_cons_zero, List.set_cons_succ]
        refine kit6.take_y (i := 27) (v := ?_) rfl (by kernel_rfl) (by kernel_rfl) (by kernel_rfl) (fun _ _ _ h => h) (by rfl) (by assumption) ?_ ?_
        rotate_left
        · intro w hSw
          try dsimp only at hSw
          go_simp
          try with_reducible rfl
        try simp only [Act.put, List.setIfInBounds_toArray, List.set_cons_zero, List.set_cons_succ]
        refine kit6.take_y (i := 29) (v := ?_) rfl (by kernel_rfl) (by kernel_rfl) (by kernel_rfl) (fun _ _ _ h => h) (by rfl) (by assumption) ?_ ?_
        rotate_left
        · intro w hSw
          try dsimp only at hSw
          go_simp
          try with_reducible rfl
        try simp only [Act.put, List.setIfInBounds_toArray, List.set_cons_zero, List.set_cons_succ]
        refine kit6.take_y (i := 30) (v := ?_) rfl (by kernel_rfl) (by kernel_rfl) (by kernel_rfl) (fun _ _ _ h => h) (by rfl) (by assumption) ?_ ?_
        rotate_left
        · intro w hSw
          try dsimp only at hSw
          go_simp
          try with_reducible rfl
        try simp only [Act.put, List.setIfInBounds_toArray, List.set_cons_zero, List.set_cons_succ]
        refine kit6.take_y (i := 31) (v := ?_) rfl (by kernel_rfl) (by kernel_rfl) (by kernel_rfl) (fun _ _ _ h => h) (by rfl) (by assumption) ?_ ?_
        rotate_left
        · intro w hSw
          try dsimp only at hSw
          go_simp
          try with_reducible rfl
        try simp only [Act.put, List.setIfInBounds_toArray, List.set_cons_zero, List.set_cons_succ]
        refine wpAnyH_ready (rs := [28, 32]) (by kernel_rfl) (by simp) ?_
        refine kit6.cons_l (i := 28) rfl (by rfl) (fun K hK => ?_) ?_
        · go_simp
          go_at_call 16; refine (votes_row _ _ _ _ _ (AccIs.below HT5.out.acc HB7.out)).mono ?_; rintro e w8 ⟨av, cv, vs9, rfl, hrv9, hvs9, hb8⟩; have HB8 := Lib.hid (below_step HB7.out hb8); have HRV9 := Lib.hid hrv9; have HVS9 := Lib.hid hvs9; obtain ⟨m0, m1, m2, m3, mz⟩ := blk4 (hp_step HBLK.out HB8.out); clear hb8 hrv9 hvs9
          dsimp only
          refine hK.out _ _ trivial (fun hHeld => ?_)
          clear hK K
          try simp only [Act.put, List.setIfInBounds_toArray, List.set_cons_zero, List.set_cons_succ]
          refine wpAnyH_ready (rs := [32]) (by kernel_rfl) (by simp) ?_
          refine kit6.cons_l (i := 32) rfl (by rfl) (fun K hK => ?_) AllReadyH.nil
          go_simp
          refine hK.out _ _ trivial (fun hHeld => ?_)
          clear hK K
          try simp only [Act.put, List.setIfInBounds_toArray, List.set_cons_zero, List.set_cons_succ]
          refine wpAnyH_ready (rs := [33]) (by kernel_rfl) (by simp) ?_
          refine kit6.cons_l (i := 33) rfl (by rfl) (fun K hK => ?_) AllReadyH.nil
          go_simp
          go_at_call 22; refine (votes_eq _ _ _ vs9 zs HRV9.out ⟨⟨_, ar, cr, rfl, own_below HROW.out HB8.out⟩, fun x hx => (HZR.out x hx).below (below_step HT5.out.below HB8.out)⟩ (HVS9.out.trans HZS.out.symm)).mono ?_; rintro e w9 ⟨rfl, hb9⟩; have HB9 := Lib.hid (below_step HB8.out hb9); clear hb9
          dsimp only
          refine hK.out _ _ trivial (fun hHeld => ?_)
          clear hK K
          try simp only [Act.put, List.setIfInBounds_toArray, List.set_cons_zero, List.set_cons_succ]
          refine kit6.take_y (i := 34) (v := ?_) rfl (by kernel_rfl) (by kernel_rfl) (by kernel_rfl) (fun _ _ _ h => h) (by rfl) (by assumption) ?_ ?_
          rotate_left
          · intro w hSw
            try dsimp only at hSw
            go_simp
            try with_reducible rfl
          try simp only [Act.put, List.setIfInBounds_toArray, List.set_cons_zero, List.set_cons_succ]
          refine kit6.take_y (i := 35) (v := ?_) rfl (by kernel_rfl) (by kernel_rfl) (by kernel_rfl) (fun _ _ _ h => h) (by rfl) (by assumption) ?_ ?_
          rotate_left
          · intro w hSw
            try dsimp only at hSw
            go_simp
            try with_reducible rfl
          try simp only [Act.put, List.setIfInBounds_toArray, List.set_cons_zero, List.set_cons_succ]
          refine wpAnyH_done (by kernel_rfl) ?_ _
          have HT9 := Lib.hid (HREL.out _ (HT5.out.old HB9.out))
          go_wp2_with fail
          go_roundw
          case rel => exact ⟨k + 1, by omega, by go_num, HT9⟩
          case measure => simp [intOf]; omega
        refine kit6.cons_l (i := 32) rfl (by rfl) (fun K hK => ?_) AllReadyH.nil
        go_simp
        refine hK.out _ _ trivial (fun hHeld => ?_)
        clear hK K
        try simp only [Act.put, List.setIfInBounds_toArray, List.set_cons_zero, List.set_cons_succ]
        refine wpAnyH_ready (rs := [28]) (by kernel_rfl) (by simp) ?_
        refine kit6.cons_l (i := 28) rfl (by rfl) (fun K hK => ?_) AllReadyH.nil
        go_simp
        go_at_call 16; refine (votes_row _ _ _ _ _ (AccIs.below HT5.out.acc HB7.out)).mono ?_; rintro e w8 ⟨av, cv, vs9, rfl, hrv9, hvs9, hb8⟩; have HB8 := Lib.hid (below_step HB7.out hb8); have HRV9 := Lib.hid hrv9; have HVS9 := Lib.hid hvs9; obtain ⟨m0, m1, m2, m3, mz⟩ := blk4 (hp_step HBLK.out HB8.out); clear hb8 hrv9 hvs9
        dsimp only
        refine hK.out _ _ trivial (fun hHeld => ?_)
        clear hK K
        try simp only [Act.put, List.setIfInBounds_toArray, List.set_cons_zero, List.set_cons_succ]
        refine wpAnyH_ready (rs := [33]) (by kernel_rfl) (by simp) ?_
        refine kit6.cons_l (i := 33) rfl (by rfl) (fun K hK => ?_) AllReadyH.nil
        go_simp
        go_at_call 22; refine (votes_eq _ _ _ vs9 zs HRV9.out ⟨⟨_, ar, cr, rfl, own_below HROW.out HB8.out⟩, fun x hx => (HZR.out x hx).below (below_step HT5.out.below HB8.out)⟩ (HVS9.out.trans HZS.out.symm)).mono ?_; rintro e w9 ⟨rfl, hb9⟩; have HB9 := Lib.hid (below_step HB8.out hb9); clear hb9
        dsimp only
        refine hK.out _ _ trivial (fun hHeld => ?_)
        clear hK K
        try simp only [Act.put, List.setIfInBounds_toArray, List.set_cons_zero, List.set_cons_succ]
        refine kit6.take_y (i := 34) (v := ?_) rfl (by kernel_rfl) (by kernel_rfl) (by kernel_rfl) (fun _ _ _ h => h) (by rfl) (by assumption) ?_ ?_
        rotate_left
        · intro w hSw
          try dsimp only at hSw
          go_simp
          try with_reducible rfl
        try simp only [Act.put, List.setIfInBounds_toArray, List.set_cons_zero, List.set_cons_succ]
        refine kit6.take_y (i := 35) (v := ?_) rfl (by kernel_rfl) (by kernel_rfl) (by kernel_rfl) (fun _ _ _ h => h) (by rfl) (by assumption) ?_ ?_
        rotate_left
        · intro w hSw
          try dsimp only at hSw
          go_simp
          try with_reducible rfl
        try simp only [Act.put, List.setIfInBounds_toArray, List.set_cons_zero, List.set_cons_succ]
        refine wpAnyH_done (by kernel_rfl) ?_ _
        have HT9 := Lib.hid (HREL.out _ (HT5.out.old HB9.out))
        go_wp2_with fail
        go_roundw
        case rel => exact ⟨k + 1, by omega, by go_num, HT9⟩
        case measure => simp [intOf]; omega
      refine kit6.cons_l (i := 23) rfl (by rfl) (fun K hK => ?_) AllReadyH.nil
      go_simp
      refine hK.out _ _ trivial (fun hHeld => ?_)
      clear hK K
      try simp only [Act.put, List.setIfInBounds_toArray, List.set_cons_zero, List.set_cons_succ]
      refine wpAnyH_ready (rs := [19]) (by kernel_rfl) (by simp) ?_
      refine kit6.cons_l (i := 19) rfl (by rfl) (fun K hK => ?_) AllReadyH.nil
      go_simp
      go_at_call 18; refine (first_b _ _ _ _ _ (AccIs.below HT5.out.acc HB6.out)).mono ?_; rintro e w7 ⟨rfl, hb7⟩; have HB7 := Lib.hid (below_step HB6.out hb7); obtain ⟨f0, f1, f2, f3, fz⟩ := blk4 (hp_step HBLK.out HB7.out); clear hb7
      dsimp only
      refine hK.out _ _ trivial (fun hHeld => ?_)
      clear hK K
      try simp only [Act.put, List.setIfInBounds_toArray, List.set_cons_zero, List.set_cons_succ]
      refine kit6.take_y (i := 24) (v := ?_) rfl (by kernel_rfl) (by kernel_rfl) (by kernel_rfl) (fun _ _ _ h => h) (by rfl) (by assumption) ?_ ?_
      rotate_left
      · intro w hSw
        try dsimp only at hSw
        go_simp
        try with_reducible rfl
      try simp only [Act.put, List.setIfInBounds_toArray, List.set_cons_zero, List.set_cons_succ]
      refine kit6.take_y (i := 25) (v := ?_) rfl (by kernel_rfl) (by kernel_rfl) (by kernel_rfl) (fun _ _ _ h => h) (by rfl) (by assumption) ?_ ?_
      rotate_left
      · intro w hSw
        try dsimp only at hSw
        go_simp
        try with_reducible rfl
      try simp only [Act.put, List.setIfInBounds_toArray, List.set_cons_zero, List.set_cons_succ]
      refine kit6.take_y (i := 26) (v := ?_) rfl (by kernel_rfl) (by kernel_rfl) (by kernel_rfl) (fun _ _ _ h => h) (by rfl) (by assumption) ?_ ?_
      rotate_left
      · intro w hSw
        try dsimp only at hSw
        go_simp
        try with_reducible rfl
      try simp only [Act.put, List.setIfInBounds_toArray, List.set_cons_zero, List.set_cons_succ]
      refine kit6.take_y (i := 27) (v := ?_) rfl (by kernel_rfl) (by kernel_rfl) (by kernel_rfl) (fun _ _ _ h => h) (by rfl) (by assumption) ?_ ?_
      rotate_left
      · intro w hSw
        try dsimp only at hSw
        go_simp
        try with_reducible rfl
      try simp only [Act.put, List.setIfInBounds_toArray, List.set_cons_zero, List.set_cons_succ]
      refine kit6.take_y (i := 29) (v := ?_) rfl (by kernel_rfl) (by kernel_rfl) (by kernel_rfl) (fun _ _ _ h => h) (by rfl) (by assumption) ?_ ?_
      rotate_left
      · intro w hSw
        try dsimp only at hSw
        go_simp
        try with_reducible rfl
      try simp only [Act.put, List.setIfInBounds_toArray, List.set_cons_zero, List.set_cons_succ]
      refine kit6.take_y (i := 30) (v := ?_) rfl (by kernel_rfl) (by kernel_rfl) (by kernel_rfl) (fun _ _ _ h => h) (by rfl) (by assumption) ?_ ?_
      rotate_left
      · intro w hSw
        try dsimp only at hSw
        go_simp
        try with_reducible rfl
      try simp only [Act.put, List.setIfInBounds_toArray, List.set_cons_zero, List.set_cons_succ]
      refine kit6.take_y (i := 31) (v := ?_) rfl (by kernel_rfl) (by kernel_rfl) (by kernel_rfl) (fun _ _ _ h => h) (by rfl) (by assumption) ?_ ?_
      rotate_left
      · intro w hSw
        try dsimp only at hSw
        go_simp
        try with_reducible rfl
      try simp only [Act.put, List.setIfInBounds_toArray, List.set_cons_zero, List.set_cons_succ]
      refine wpAnyH_ready (rs := [28, 32]) (by kernel_rfl) (by simp) ?_
      refine kit6.cons_l (i := 28) rfl (by rfl) (fun K hK => ?_) ?_
      · go_simp
        go_at_call 16; refine (votes_row _ _ _ _ _ (AccIs.below HT5.out.acc HB7.out)).mono ?_; rintro e w8 ⟨av, cv, vs9, rfl, hrv9, hvs9, hb8⟩; have HB8 := Lib.hid (below_step HB7.out hb8); have HRV9 := Lib.hid hrv9; have HVS9 := Lib.hid hvs9; obtain ⟨m0, m1, m2, m3, mz⟩ := blk4 (hp_step HBLK.out HB8.out); clear hb8 hrv9 hvs9
        dsimp only
        refine hK.out _ _ trivial (fun hHeld => ?_)
        clear hK K
        try simp only [Act.put, List.setIfInBounds_toArray, List.set_cons_zero, List.set_cons_succ]
        refine wpAnyH_ready (rs := [32]) (by kernel_rfl) (by simp) ?_
        refine kit6.cons_l (i := 32) rfl (by rfl) (fun K hK => ?_) AllReadyH.nil
        go_simp
        refine hK.out _ _ trivial (fun hHeld => ?_)
        clear hK K
        try simp only [Act.put, List.setIfInBounds_toArray, List.set_cons_zero, List.set_cons_succ]
        refine wpAnyH_ready (rs := [33]) (by kernel_rfl) (by simp) ?_
        refine kit6.cons_l (i := 33) rfl (by rfl) (fun K hK => ?_) AllReadyH.nil
        go_simp
        go_at_call 22; refine (votes_eq _ _ _ vs9 zs HRV9.out ⟨⟨_, ar, cr, rfl, own_below HROW.out HB8.out⟩, fun x hx => (HZR.out x hx).below (below_step HT5.out.below HB8.out)⟩ (HVS9.out.trans HZS.out.symm)).mono ?_; rintro e w9 ⟨rfl, hb9⟩; have HB9 := Lib.hid (below_step HB8.out hb9); clear hb9
        dsimp only
        refine hK.out _ _ trivial (fun hHeld => ?_)
        clear hK K
        try simp only [Act.put, List.setIfInBounds_toArray, List.set_cons_zero, List.set_cons_succ]
        refine kit6.take_y (i := 34) (v := ?_) rfl (by kernel_rfl) (by kernel_rfl) (by kernel_rfl) (fun _ _ _ h => h) (by rfl) (by assumption) ?_ ?_
        rotate_left
        · intro w hSw
          try dsimp only at hSw
          go_simp
          try with_reducible rfl
        try simp only [Act.put, List.setIfInBounds_toArray, List.set_cons_zero, List.set_cons_succ]
        refine kit6.take_y (i := 35) (v := ?_) rfl (by kernel_rfl) (by kernel_rfl) (by kernel_rfl) (fun _ _ _ h => h) (by rfl) (by assumption) ?_ ?_
        rotate_left
        · intro w hSw
          try dsimp only at hSw
          go_simp
          try with_reducible rfl
        try simp only [Act.put, List.setIfInBounds_toArray, List.set_cons_zero, List.set_cons_succ]
        refine wpAnyH_done (by kernel_rfl) ?_ _
        have HT9 := Lib.hid (HREL.out _ (HT5.out.old HB9.out))
        go_wp2_with fail
        go_roundw
        case rel => exact ⟨k + 1, by omega, by go_num, HT9⟩
        case measure => simp [intOf]; omega
      refine kit6.cons_l (i := 32) rfl (by rfl) (fun K hK => ?_) AllReadyH.nil
      go_simp
      refine hK.out _ _ trivial (fun hHeld => ?_)
      clear hK K
      try simp only [Act.put, List.setIfInBounds_toArray, List.set_cons_zero, List.set_cons_succ]
      refine wpAnyH_ready (rs := [28]) (by kernel_rfl) (by simp) ?_
      refine kit6.cons_l (i := 28) rfl (by rfl) (fun K hK => ?_) AllReadyH.nil
      go_simp
      go_at_call 16; refine (votes_row _ _ _ _ _ (AccIs.below HT5.out.acc HB7.out)).mono ?_; rintro e w8 ⟨av, cv, vs9, rfl, hrv9, hvs9, hb8⟩; have HB8 := Lib.hid (below_step HB7.out hb8); have HRV9 := Lib.hid hrv9; have HVS9 := Lib.hid hvs9; obtain ⟨m0, m1, m2, m3, mz⟩ := blk4 (hp_step HBLK.out HB8.out); clear hb8 hrv9 hvs9
      dsimp only
      refine hK.out _ _ trivial (fun hHeld => ?_)
      clear hK K
      try simp only [Act.put, List.setIfInBounds_toArray, List.set_cons_zero, List.set_cons_succ]
      refine wpAnyH_ready (rs := [33]) (by kernel_rfl) (by simp) ?_
      refine kit6.cons_l (i := 33) rfl (by rfl) (fun K hK => ?_) AllReadyH.nil
      go_simp
      go_at_call 22; refine (votes_eq _ _ _ vs9 zs HRV9.out ⟨⟨_, ar, cr, rfl, own_below HROW.out HB8.out⟩, fun x hx => (HZR.out x hx).below (below_step HT5.out.below HB8.out)⟩ (HVS9.out.trans HZS.out.symm)).mono ?_; rintro e w9 ⟨rfl, hb9⟩; have HB9 := Lib.hid (below_step HB8.out hb9); clear hb9
      dsimp only
      refine hK.out _ _ trivial (fun hHeld => ?_)
      clear hK K
      try simp only [Act.put, List.setIfInBounds_toArray, List.set_cons_zero, List.set_cons_succ]
      refine kit6.take_y (i := 34) (v := ?_) rfl (by kernel_rfl) (by kernel_rfl) (by kernel_rfl) (fun _ _ _ h => h) (by rfl) (by assumption) ?_ ?_
      rotate_left
      · intro w hSw
        try dsimp only at hSw
        go_simp
        try with_reducible rfl
      try simp only [Act.put, List.setIfInBounds_toArray, List.set_cons_zero, List.set_cons_succ]
      refine kit6.take_y (i := 35) (v := ?_) rfl (by kernel_rfl) (by kernel_rfl) (by kernel_rfl) (fun _ _ _ h => h) (by rfl) (by assumption) ?_ ?_
      rotate_left
      · intro w hSw
        try dsimp only at hSw
        go_simp
        try with_reducible rfl
      try simp only [Act.put, List.setIfInBounds_toArray, List.set_cons_zero, List.set_cons_succ]
      refine wpAnyH_done (by kernel_rfl) ?_ _
      have HT9 := Lib.hid (HREL.out _ (HT5.out.old HB9.out))
      go_wp2_with fail
      go_roundw
      case rel => exact ⟨k + 1, by omega, by go_num, HT9⟩
      case measure => simp [intOf]; omega
    · obtain rfl : k = l.length := by omega
      go_wp2_with fail
      go_ret
      exact ⟨rfl, hT.out.below⟩

theorem weights_all {H : Type} {P : Program} {t : TypeId} {n : Nat} : ∀ {ds : List (DataW H)} {d : DataW H}, d ∈ ds → n ∈ d.weights P t → n ∈ DataW.weightsAll P t ds
  | d0 :: ds, d, hd, hn => by
    simp only [DataW.weightsAll, List.mem_append]
    rcases List.mem_cons.1 hd with rfl | hd
    · exact .inl hn
    · exact .inr (weights_all hd hn)
theorem small_of {H : Type} {W : World} {o : OpV} {d1 : DataW H} {ds sp : List (DataW H)} {ts : List TypeId} {es : List (DataW H)} {j k : Nat} (hsz : (DataW.weightsEach Try.prog ts es).all (· ≤ reachBytes) = true) (ht : ts[j]? = some 22) (he : es[j]? = some (.slice ds sp)) (hk : ds[k]? = some d1) (ho : DataO o d1) : o.l.length ≤ 140737488351232 := by
  obtain ⟨e0, e1, e2, e3, rfl, h | ⟨es', sp', rfl, hl⟩⟩ := ho
  · rw [h]; simp
  · have e1' : Try.prog.bytesOf 5 = 1 := by kernel_rfl
    have hw : (es'.length + sp'.length) * Try.prog.bytesOf 5 ∈ (DataW.agg [e0, e1, e2, DataW.slice es' sp'] : DataW H).weights Try.prog 31 := by
      simp [DataW.weights, DataW.weightsEach, Try.underlying31, Try.underlying29]
    have hw2 := weights_all (List.mem_of_getElem? hk) hw
    have hw3 : (es'.length + sp'.length) * Try.prog.bytesOf 5 ∈ (DataW.slice ds sp : DataW H).weights Try.prog 22 := by
      simp only [DataW.weights, Try.underlying22, List.mem_cons, List.mem_append]
      exact .inr (.inl hw2)
    have h := List.all_eq_true.1 hsz _ (DataW.weights_mem_each ht he _ hw3)
    rw [e1', Nat.mul_one] at h
    have h2 : es'.length + sp'.length ≤ 140737488351232 := of_decide_eq_true h
    have h3 : es'.length = o.l.length := hl
    omega

theorem lawWalk {H : Type} (enc : TypeId × Value → H) : LawWalk enc Try.prog 4 Try.f4 (fun _ => True) := by
  intro W base args ds p hval hA hsz _
  rw [Try.params4] at hA hval hsz
  obtain ⟨v0, vs0, d0, ds0, p0, q0, hargs, rfl, rfl, h0, r0⟩ := trodAll_cons hA
  obtain ⟨rfl, rfl, rfl⟩ := trodAll_nil r0
  obtain rfl : args = #[v0] := Array.toList_inj.1 hargs
  obtain ⟨a0, l0, cap0, es0, sp0, rfl, hlc0, hcm0, hn0, hat0, hd0, hel0, hsp0, hgood0⟩ := open_slice_gen 5 ocells (fun o d => GoodO W o ∧ DataO o d) Try.underlying22 (by kernel_rfl) (by omega) (fun n cs y _ h => elem_op n cs y h) (hval 0 22 v0 rfl rfl) h0
  have hol : ∀ k (hk : k < l0.length), (l0[k]).l.length ≤ 140737488351232 := by
    intro k hk
    rcases hd0 with ⟨_, rfl, _, _⟩ | rfl
    · simp at hk
    · have hk2 : k < es0.length := by omega
      exact small_of (W := W) (j := 0) (k := k) hsz rfl rfl (List.getElem?_eq_getElem hk2) (hgood0 k hk hk2).2
  exact plays_ok W a0 l0 cap0 (by unfold maxLen at hcm0; omega) hat0 (fun k hk => (hgood0 k hk (by omega)).1) hol

theorem own : ownKnob Try.prog.godebug = none := by kernel_rfl
theorem laidOut : laidOutB Try.prog = true := by kernel_rfl

set_option maxRecDepth 100000 in
theorem lifted (os : Os) (started : os.Started) (H : Type) (enc : TypeId × Value → H) :
    ReturnsInHanded {} Try.checked os 4 .any (Rows.acceptPlaysSpec.pre6 enc Try.prog Try.f4 Rows.acceptPlaysRow.domain false) (Rows.acceptPlaysSpec.post enc Try.prog Try.f4 false true false false) := by
  refine returnsInHanded_of_change_sized (C := Try.checked) own started (by kernel_rfl) Try.func4
    (ChangeSpec.witness6 (enc := enc) (C := Try.checked) false ⟨#[], #[.slice none 0 0], []⟩ 8 (by kernel_rfl) (by kernel_rfl) (by kernel_rfl) (by kernel_rfl)) ?_
  intro W base args ds gs before hval hW hcnd hsz _
  exact law_post (C := Try.checked) laidOut (fun ds h => by match ds, h with | [_], _ => rfl) 4 rfl Try.underlying4 rfl (by kernel_rfl) hval hW hsz trivial (lawWalk enc)

theorem proved : Rows.AcceptPlaysSaid :=
  OpenClaim.holds_of_wide 4 Try.f4 rfl rfl rfl rfl rfl rfl rfl ⟨rfl, rfl, rfl, rfl, rfl⟩ rfl rfl rfl rfl rfl (by kernel_rfl) Try.func4 (by kernel_rfl)
    (of_decide_eq_true (by kernel_rfl)) (by unfold Func.isWrapper; first | (rw [if_pos (by decide +kernel)]; kernel_rfl) | (rw [if_neg (by decide +kernel)]; exact ⟨rfl, rfl⟩))
    (fun os started H enc _ => lifted os started H enc)
#print axioms proved
end Go.Proofs.Ytafjmedjaepimaa.acceptPlays
