/-
  ClockPlays: whatever is set, stopped and ticked: each answer, what is set, and when it is due, is the document's.
-/
import Derived.Test.YtejjnhgiijhglaaRClkW
import Derived.Test.YtejjnhgiijhglaaClkNm
import Derived.Test.YtejjnhgiijhglaaKit6
import Derived.Deep.RegionLaw
import Derived.Test.YtejjnhgiijhglaaChecked
import Derived.Test.YtejjnhgiijhglaaRows
namespace Go.Proofs.Ytejjnhgiijhglaa.clockPlays
open Go.ChangeShapes Go.WideShapes Go.ChangeAt Go.RowKit Go.Joins Go.ChangeMaps
open Go.Proofs.Ytejjnhgiijhglaa.kit Go.Proofs.Ytejjnhgiijhglaa.mapkit Go.Proofs.Ytejjnhgiijhglaa.own Go.Proofs.Ytejjnhgiijhglaa.heapp Go.Proofs.Ytejjnhgiijhglaa.clkp Go.Proofs.Ytejjnhgiijhglaa.clks Go.Proofs.Ytejjnhgiijhglaa.clkt Go.Proofs.Ytejjnhgiijhglaa.clkr Go.Proofs.Ytejjnhgiijhglaa.clknm Go.Proofs.Ytejjnhgiijhglaa.clkpl Go.Proofs.Ytejjnhgiijhglaa.rclkp Go.Proofs.Ytejjnhgiijhglaa.rclk Go.Proofs.Ytejjnhgiijhglaa.rclks Go.Proofs.Ytejjnhgiijhglaa.rclkv Go.Proofs.Ytejjnhgiijhglaa.rclkw
set_option linter.unusedVariables false
set_option linter.unusedSimpArgs false
set_option maxHeartbeats 2000000
set_option maxRecDepth 100000

/-- A call on both. -/
theorem step_ok (w : World) (base cb mb rb k : Nat) (A : CkS) (P : List T3) (o : OpC) (h : Both w base cb mb rb A P) (hbase : base ≤ w.heap.size) (ho : o.ok) (hG : clkr.Good A k) (hk : k ≤ 4398046511104) :
    Calls Try.prog 15 #[.pointer (some ⟨cb, 0, none⟩), .pointer (some ⟨rb, 0, none⟩), .agg #[.int .i64 o.kind, .string o.nm, .int .i64 o.inn]] w fun e w' => e = .returned (.bool true) ∧ (∃ P', Both w' base cb mb rb (opC A o) P') ∧ Below base w w' := by
  have h1 := hG.now
  have h2 := hG.turns
  by_cases k1 : o.kind = 1
  · rw [k1, show opC A o = stopS A o.nm by rw [opC, if_pos k1]]
    exact step_stop w base cb mb rb A P o.nm o.inn h hbase ho
  · by_cases k2 : o.kind = 2
    · rw [k2, show opC A o = tickS A by rw [opC, if_neg k1, if_pos k2]]
      exact step_tick w base cb mb rb A P o.nm o.inn h hbase hG.fut (by omega)
    · rw [show opC A o = setS A o.nm o.inn by rw [opC, if_neg k1, if_neg k2]]
      exact step_set w base cb mb rb A P o.kind o.nm o.inn h hbase ho (by omega) k1 k2

theorem now_b (w : World) (base cb mb : Nat) (A : CkS) (h : ClkIs w base cb mb A) : Calls Try.prog 10 #[.pointer (some ⟨cb, 0, none⟩)] w fun e w' => e = .returned (.int .i64 A.now) ∧ Below w.heap.size w w' := by
  refine (now_ok w base cb mb A h).mono ?_
  rintro e w' ⟨rfl, rfl⟩
  exact ⟨rfl, Below.refl _ _⟩
theorem ref_now {w : World} {base b : Nat} {now : Int} {P : List T3} (h : RefAt w base b now P) : w.cell? ⟨b, 0, none⟩ = some (.int .i64 now) ∧ b < w.heap.size := by
  obtain ⟨-, a, c, h2, -⟩ := h
  exact ⟨(kit.blk h2).1 0, (kit.blk h2).2.2⟩
theorem nm_ok (w : World) (base cb mb : Nat) (A : CkS) (h : ClkIs w base cb mb A) :
    Calls Try.prog 17 #[.pointer (some ⟨cb, 0, none⟩)] w fun e w' => ∃ (a : Option Addr) (c : Nat), e = .returned (.slice a (A.s.map T3.nm).length c) ∧
      w'.ownsRow w.heap.size 9 1 (.slice a (A.s.map T3.nm).length c) (A.s.map T3.nm).length ((A.s.map T3.nm).map Value.string) ∧ Below w.heap.size w w' := by
  have h1 := names_ok w base cb mb A h
  rw [show names A.s = (A.s.map T3.nm).map Value.string by unfold names; rw [List.map_map]; rfl, show A.s.length = (A.s.map T3.nm).length by rw [List.length_map]] at h1
  exact h1

theorem plays_ok (w : World) (a : Option Addr) (l : List OpC) (cap : Nat) (hl : l.length ≤ 4398046511103) (hat : RowsAt w a 3 (l.map ocells)) (hok : ∀ k (hk : k < l.length), (l[k]).ok) :
    Calls Try.prog 4 #[.slice a l.length cap] w fun e w' => e = .returned (.bool true) ∧ Below w.heap.size w w' := by
  have hN := Lib.hid (cnew_ok w)
  have HR := Lib.hid (fun (wr : World) (hb : Below w.heap.size w wr) k hk => row_op (hat.below hb) k hk)
  have HOK := Lib.hid hok
  clear hat hok
  go_enter Try.func4, Try.ntmps4
  go_wp2_with fail
  refine hN.out.mono ?_; rintro e w1 ⟨cb, mb, rfl, hL1, hb1⟩
  have HL1 := Lib.hid hL1
  have HB1 := Lib.hid hb1
  clear hL1 hb1 hN
  obtain ⟨w2, hw2⟩ : ∃ w2 : World, w2 = w1.alloc (.cells #[.int .i64 0, .slice none 0 0] 38) := ⟨_, rfl⟩
  have hb2 : Below w1.heap.size w1 w2 := by rw [hw2]; exact below_new1 _ _
  have hs1 := HB1.out.size
  have HT2 : Hid (Both w2 w.heap.size cb mb w1.heap.size clkp.start []) := ⟨HL1.out.below hb2, ⟨hs1, none, 0, by rw [hw2]; exact hp_alloc_new _ _, World.ownsRow_nil _ _ _ _⟩, rel_start⟩
  have HB2 := Lib.hid (below_step HB1.out hb2)
  have HW2 := Lib.hid hw2
  clear hw2 hb2
  go_wp2_with fail
  rw [← HW2.out]
  refine (awake_ok w2).mono ?_; rintro e w3 ⟨rfl, hb3⟩
  have HT3 := Lib.hid (HT2.out.below hb3)
  have HB3 := Lib.hid (below_step HB2.out hb3)
  obtain ⟨rb, hrb⟩ : ∃ x, x = w1.heap.size := ⟨_, rfl⟩
  rw [← hrb] at HT3 ⊢
  clear hb3 hrb HT2 HB2 HW2 HL1 HB1 hs1
  go_wp2_with fail
  go_loopw [5] (fun iv wr => ∃ (k : Nat) (A : CkS) (P : List T3), k ≤ l.length ∧ iv = .int .i64 k ∧ Hid (clkr.Good A k) ∧ Hid (Both wr w.heap.size cb mb rb A P) ∧ Hid (Below w.heap.size w wr)) (fun iv _ => l.length - (intOf iv).toNat)
  case atStart => exact ⟨0, clkp.start, [], Nat.zero_le _, rfl, good_start, HT3, HB3⟩
  case round =>
    obtain ⟨k, A, P, hk, rfl, HG, HT, HB⟩ := hrel
    by_cases hlt : k < l.length
    · obtain ⟨g, off, rfl, hgz, r0, r1, r2⟩ := HR.out wr HB.out k hlt
      have hsz := HB.out.size
      have hO := HOK.out k hlt
      obtain ⟨o, ho⟩ : ∃ o, o = l[k] := ⟨_, rfl⟩
      rw [← ho] at r0 r1 r2 hO
      have HGO := Lib.hid (good_op HG.out o)
      obtain ⟨A', hA'⟩ : ∃ A', A' = opC A o := ⟨_, rfl⟩
      have HST := Lib.hid (step_ok wr.drew w.heap.size cb mb rb k A P o (HT.out.below (below_drewN (Below.refl _ wr) 1)) hsz hO HG.out (by omega))
      rw [← hA'] at HST HGO
      have HRK : Hid (∀ wz : World, Below w.heap.size w wz → g < wz.heap.size ∧ wz.cell? ⟨g, off + k * 3 + 1, none⟩ = some (.string o.nm)) := by
        intro wz hz
        obtain ⟨g', off', e', hz', -, s1, -⟩ := HR.out wz hz k hlt
        simp only [Option.some.injEq, Addr.mk.injEq, and_true] at e'
        obtain ⟨rfl, rfl⟩ := e'
        rw [← ho] at s1
        exact ⟨hz', s1⟩
      have HO := Lib.hid hO
      obtain ⟨ns, hns⟩ : ∃ ns, ns = A'.s.map T3.nm := ⟨_, rfl⟩
      have HNC : Hid (∀ wz : World, ClkIs wz w.heap.size cb mb A' → Calls Try.prog 17 #[.pointer (some ⟨cb, 0, none⟩)] wz fun e w' => ∃ (a : Option Addr) (c : Nat), e = .returned (.slice a ns.length c) ∧ w'.ownsRow wz.heap.size 9 1 (.slice a ns.length c) ns.length (ns.map Value.string) ∧ Below wz.heap.size wz w') := fun wz h => by rw [hns]; exact nm_ok wz _ cb mb A' h
      have HNR : Hid (∀ (wz : World) (P' : List T3), Both wz w.heap.size cb mb rb A' P' → Calls Try.prog 18 #[.pointer (some ⟨rb, 0, none⟩)] wz fun e w' => ∃ (a : Option Addr) (c : Nat), e = .returned (.slice a ns.length c) ∧ w'.ownsRow wz.heap.size 9 1 (.slice a ns.length c) ns.length (ns.map Value.string) ∧ Below wz.heap.size wz w') := fun wz P' h => by rw [hns]; exact rnames_ok wz _ rb A' P' h.ref h.rel h.clk.ok HGO.out.fut
      have HN64 : Hid (∀ (wz : World) (P' : List T3), Both wz w.heap.size cb mb rb A' P' → ns.length ≤ 64) := fun wz P' h => by rw [hns, List.length_map]; exact h.clk.ok.len
      clear ho hA' hO hns
      go_wp2_with fail
      refine wp_region_held_drew (S := (fun w' => True)) (by kernel_rfl) trivial (fun hHeld => ?_)
      refine kit6.take_y (i := 0) (v := ?_) rfl (by kernel_rfl) (by kernel_rfl) (by kernel_rfl) (fun _ _ _ h => h) (by rfl) (by assumption) ?_ ?_
      rotate_left
      · intro w hSw
        try dsimp only at hSw
        go_simp
        try with_reducible rfl
      try simp only [Act.put, List.setIfInBounds_toArray, List.set_cons_zero, List.set_cons_succ]
      refine kit6.take_y (i := 1) (v := ?_) rfl (by kernel_rfl) (by kernel_rfl) (by kernel_rfl) (fun _ _ _ h => h) (by rfl) (by assumption) ?_ ?_
      rotate_left
      · intro w hSw
        try dsimp only at hSw
        go_simp
        try with_reducible rfl
      try simp only [Act.put, List.setIfInBounds_toArray, List.set_cons_zero, List.set_cons_succ]
      refine kit6.take_y (i := 2) (v := ?_) rfl (by kernel_rfl) (by kernel_rfl) (by kernel_rfl) (fun _ _ _ h => h) (by rfl) (by assumption) ?_ ?_
      rotate_left
      · intro w hSw
        try dsimp only at hSw
        go_simp
        try with_reducible rfl
      try simp only [Act.put, List.setIfInBounds_toArray, List.set_cons_zero, List.set_cons_succ]
      refine kit6.take_y (i := 3) (v := ?_) rfl (by kernel_rfl) (by kernel_rfl) (by kernel_rfl) (fun _ _ _ h => h) (by rfl) (by assumption) ?_ ?_
      rotate_left
      · intro w hSw
        try dsimp only at hSw
        go_simp
        try with_reducible rfl
      try simp only [Act.put, List.setIfInBounds_toArray, List.set_cons_zero, List.set_cons_succ]
      refine kit6.take_y (i := 4) (v := ?_) rfl (by kernel_rfl) (by kernel_rfl) (by kernel_rfl) (fun _ _ _ h => h) (by rfl) (by assumption) ?_ ?_
      rotate_left
      · intro w hSw
        try dsimp only at hSw
        go_simp
        try with_reducible rfl
      try simp only [Act.put, List.setIfInBounds_toArray, List.set_cons_zero, List.set_cons_succ]
      refine wpAnyH_ready (rs := [5]) (by kernel_rfl) (by simp) ?_
      refine kit6.cons_l (i := 5) rfl (by rfl) (fun K hK => ?_) AllReadyH.nil
      go_simp
      refine hK.out _ _ trivial (fun hHeld => ?_)
      clear hK K
      try simp only [Act.put, List.setIfInBounds_toArray, List.set_cons_zero, List.set_cons_succ]
      refine wpAnyH_ready (rs := [6]) (by kernel_rfl) (by simp) ?_
      refine kit6.cons_l (i := 6) rfl (by rfl) (fun K hK => ?_) AllReadyH.nil
      go_simp
      go_at_call 15; refine HST.out.mono ?_; rintro e w5 ⟨rfl, ⟨P5, hT5⟩, hb5⟩; have HT5 := Lib.hid hT5; obtain ⟨c0, cz⟩ := ref_now hT5.ref; have HBW5 : Hid (Below w.heap.size w w5) := (below_drewN HB.out 1).trans hb5; have hl64 : ns.length ≤ 64 := HN64.out w5 P5 hT5; clear hT5 hb5
      dsimp only
      refine hK.out _ _ trivial (fun hHeld => ?_)
      clear hK K
      try simp only [Act.put, List.setIfInBounds_toArray, List.set_cons_zero, List.set_cons_succ]
      refine kit6.take_y (i := 7) (v := ?_) rfl (by kernel_rfl) (by kernel_rfl) (by kernel_rfl) (fun _ _ _ h => h) (by rfl) (by assumption) ?_ ?_
      rotate_left
      · intro w hSw
        try dsimp only at hSw
        go_simp
        try with_reducible rfl
      try simp only [Act.put, List.setIfInBounds_toArray, List.set_cons_zero, List.set_cons_succ]
      refine kit6.take_y (i := 8) (v := ?_) rfl (by kernel_rfl) (by kernel_rfl) (by kernel_rfl) (fun _ _ _ h => h) (by rfl) (by assumption) ?_ ?_
      rotate_left
      · intro w hSw
        try dsimp only at hSw
        go_simp
        try with_reducible rfl
      try simp only [Act.put, List.setIfInBounds_toArray, List.set_cons_zero, List.set_cons_succ]
      refine kit6.take_y (i := 9) (v := ?_) rfl (by kernel_rfl) (by kernel_rfl) (by kernel_rfl) (fun _ _ _ h => h) (by rfl) (by assumption) ?_ ?_
      rotate_left
      · intro w hSw
        try dsimp only at hSw
        go_simp
        try with_reducible rfl
      try simp only [Act.put, List.setIfInBounds_toArray, List.set_cons_zero, List.set_cons_succ]
      refine kit6.take_y (i := 11) (v := ?_) rfl (by kernel_rfl) (by kernel_rfl) (by kernel_rfl) (fun _ _ _ h => h) (by rfl) (by assumption) ?_ ?_
      rotate_left
      · intro w hSw
        try dsimp only at hSw
        go_simp
        try with_reducible rfl
      try simp only [Act.put, List.setIfInBounds_toArray, List.set_cons_zero, List.set_cons_succ]
      refine kit6.take_y (i := 12) (v := ?_) rfl (by kernel_rfl) (by kernel_rfl) (by kernel_rfl) (fun _ _ _ h => h) (by rfl) (by assumption) ?_ ?_
      rotate_left
      · intro w hSw
        try dsimp only at hSw
        go_simp
        try with_reducible rfl
      try simp only [Act.put, List.setIfInBounds_toArray, List.set_cons_zero, List.set_cons_succ]
      refine kit6.take_y (i := 13) (v := ?_) rfl (by kernel_rfl) (by kernel_rfl) (by kernel_rfl) (fun _ _ _ h => h) (by rfl) (by assumption) ?_ ?_
      rotate_left
      · intro w hSw
        try dsimp only at hSw
        go_simp
        try with_reducible rfl
      try simp only [Act.put, List.setIfInBounds_toArray, List.set_cons_zero, List.set_cons_succ]
      refine wpAnyH_ready (rs := [10, 14]) (by kernel_rfl) (by simp) ?_
      refine kit6.cons_l (i := 10) rfl (by rfl) (fun K hK => ?_) ?_
      · go_simp
        go_at_call 10; refine (now_b _ _ cb mb _ HT5.out.clk).mono ?_; rintro e w6 ⟨rfl, hb6⟩; have HB6 := Lib.hid hb6; obtain ⟨d0, dz⟩ := ref_now (HT5.out.ref.below hb6); clear hb6
        dsimp only
        refine hK.out _ _ trivial (fun hHeld => ?_)
        clear hK K
        try simp only [Act.put, List.setIfInBounds_toArray, List.set_cons_zero, List.set_cons_succ]
        refine wpAnyH_ready (rs := [14]) (by kernel_rfl) (by simp) ?_
        refine kit6.cons_l (i := 14) rfl (by rfl) (fun K hK => ?_) AllReadyH.nil
        go_simp
        refine hK.out _ _ trivial (fun hHeld => ?_)
        clear hK K
        try simp only [Act.put, List.setIfInBounds_toArray, List.set_cons_zero, List.set_cons_succ]
        refine kit6.take_y (i := 15) (v := ?_) rfl (by kernel_rfl) (by kernel_rfl) (by kernel_rfl) (fun _ _ _ h => h) (by rfl) (by assumption) ?_ ?_
        rotate_left
        · intro w hSw
          try dsimp only at hSw
          go_simp
          try with_reducible rfl
        try simp only [Act.put, List.setIfInBounds_toArray, List.set_cons_zero, List.set_cons_succ]
        refine kit6.take_y (i := 16) (v := ?_) rfl (by kernel_rfl) (by kernel_rfl) (by kernel_rfl) (fun _ _ _ h => h) (by rfl) (by assumption) ?_ ?_
        rotate_left
        · intro w hSw
          try dsimp only at hSw
          go_simp
          try with_reducible rfl
        try simp only [Act.put, List.setIfInBounds_toArray, List.set_cons_zero, List.set_cons_succ]
        refine kit6.take_y (i := 17) (v := ?_) rfl (by kernel_rfl) (by kernel_rfl) (by kernel_rfl) (fun _ _ _ h => h) (by rfl) (by assumption) ?_ ?_
        rotate_left
        · intro w hSw
          try dsimp only at hSw
          go_simp
          try with_reducible rfl
        try simp only [Act.put, List.setIfInBounds_toArray, List.set_cons_zero, List.set_cons_succ]
        refine kit6.take_y (i := 18) (v := ?_) rfl (by kernel_rfl) (by kernel_rfl) (by kernel_rfl) (fun _ _ _ h => h) (by rfl) (by assumption) ?_ ?_
        rotate_left
        · intro w hSw
          try dsimp only at hSw
          go_simp
          try with_reducible rfl
        try simp only [Act.put, List.setIfInBounds_toArray, List.set_cons_zero, List.set_cons_succ]
        refine kit6.take_y (i := 20) (v := ?_) rfl (by kernel_rfl) (by kernel_rfl) (by kernel_rfl) (fun _ _ _ h => h) (by rfl) (by assumption) ?_ ?_
        rotate_left
        · intro w hSw
          try dsimp only at hSw
          go_simp
          try with_reducible rfl
        try simp only [Act.put, List.setIfInBounds_toArray, List.set_cons_zero, List.set_cons_succ]
        refine wpAnyH_ready (rs := [19]) (by kernel_rfl) (by simp) ?_
        refine kit6.cons_l (i := 19) rfl (by rfl) (fun K hK => ?_) AllReadyH.nil
        go_simp
        go_at_call 17; refine (HNC.out _ (HT5.out.clk.below HB6.out)).mono ?_; rintro e w7 ⟨a7, c7, rfl, hr7, hb7⟩; have HR7 := Lib.hid hr7; have HB7 := Lib.hid (below_step HB6.out hb7); clear hr7 hb7
        dsimp only
        refine hK.out _ _ trivial (fun hHeld => ?_)
        clear hK K
        try simp only [Act.put, List.setIfInBounds_toArray, List.set_cons_zero, List.set_cons_succ]
        refine wpAnyH_ready (rs := [21]) (by kernel_rfl) (by simp) ?_
        refine kit6.cons_l (i := 21) rfl (by rfl) (fun K hK => ?_) AllReadyH.nil
        go_simp
        go_at_call 18; refine (HNR.out _ P5 (HT5.out.below HB7.out)).mono ?_; rintro e w8 ⟨a8, c8, rfl, hr8, hb8⟩; have HR8 := Lib.hid hr8; have HR78 := Lib.hid (own_below HR7.out hb8); have HB8 := Lib.hid (below_step HB7.out hb8); clear hr8 hb8
        dsimp only
        refine hK.out _ _ trivial (fun hHeld => ?_)
        clear hK K
        try simp only [Act.put, List.setIfInBounds_toArray, List.set_cons_zero, List.set_cons_succ]
        refine wpAnyH_ready (rs := [22]) (by kernel_rfl) (by simp) ?_
        refine kit6.cons_l (i := 22) rfl (by rfl) (fun K hK => ?_) AllReadyH.nil
        go_simp
        go_at_call 16; refine (plain_ok _ _ _ c7 c8 a7 a8 ns HR78.out HR8.out hl64).mono ?_; rintro e w9 ⟨rfl, hb9⟩; have HB9 := Lib.hid (below_step HB8.out hb9); clear hb9
        dsimp only
        refine hK.out _ _ trivial (fun hHeld => ?_)
        clear hK K
        try simp only [Act.put, List.setIfInBounds_toArray, List.set_cons_zero, List.set_cons_succ]
        refine kit6.take_y (i := 23) (v := ?_) rfl (by kernel_rfl) (by kernel_rfl) (by kernel_rfl) (fun _ _ _ h => h) (by rfl) (by assumption) ?_ ?_
        rotate_left
        · intro w hSw
          try dsimp only at hSw
          go_simp
          try with_reducible rfl
        try simp only [Act.put, List.setIfInBounds_toArray, List.set_cons_zero, List.set_cons_succ]
        refine kit6.take_y (i := 24) (v := ?_) rfl (by kernel_rfl) (by kernel_rfl) (by kernel_rfl) (fun _ _ _ h => h) (by rfl) (by assumption) ?_ ?_
        rotate_left
        · intro w hSw
          try dsimp only at hSw
          go_simp
          try with_reducible rfl
        try simp only [Act.put, List.setIfInBounds_toArray, List.set_cons_zero, List.set_cons_succ]
        refine wpAnyH_done (by kernel_rfl) ?_ _
        have HT9 := Lib.hid (HT5.out.below HB9.out)
        have HBW9 : Hid (Below w.heap.size w w9) := below_step HBW5.out HB9.out
        obtain ⟨hg9, s9⟩ := HRK.out w9 HBW9.out
        have HD1 := Lib.hid (due_ok w9 _ cb mb A' o.nm HT9.out.clk HO.out)
        have HD2 := Lib.hid (rdue_ok w9 _ rb A' P5 o.nm HT9.out.ref HT9.out.rel HT9.out.clk.ok)
        obtain ⟨dv, hdv⟩ : ∃ x, x = (dueS A' o.nm).getD 0 := ⟨_, rfl⟩
        obtain ⟨bv, hbv⟩ : ∃ x, x = (dueS A' o.nm).isSome := ⟨_, rfl⟩
        rw [← hdv, ← hbv] at HD1 HD2
        clear hdv hbv
        go_wp2_with fail
        refine HD1.out.mono ?_; rintro e w10 ⟨rfl, rfl⟩
        go_wp2_with fail
        refine HD2.out.mono ?_; rintro e w11 ⟨rfl, m11, rfl⟩
        have HT11 := Lib.hid (HT9.out.below (below_drewN (Below.refl _ w9) m11))
        have HBW11 := Lib.hid (below_drewN HBW9.out m11)
        go_wp2_with fail
        go_roundw
        case rel => exact ⟨k + 1, A', P5, by omega, by go_num, HGO, HT11, HBW11⟩
        case measure => simp [intOf]; omega
      refine kit6.cons_l (i := 14) rfl (by rfl) (fun K hK => ?_) AllReadyH.nil
      go_simp
      refine hK.out _ _ trivial (fun hHeld => ?_)
      clear hK K
      try simp only [Act.put, List.setIfInBounds_toArray, List.set_cons_zero, List.set_cons_succ]
      refine wpAnyH_ready (rs := [10]) (by kernel_rfl) (by simp) ?_
      refine kit6.cons_l (i := 10) rfl (by rfl) (fun K hK => ?_) AllReadyH.nil
      go_simp
      go_at_call 10; refine (now_b _ _ cb mb _ HT5.out.clk).mono ?_; rintro e w6 ⟨rfl, hb6⟩; have HB6 := Lib.hid hb6; obtain ⟨d0, dz⟩ := ref_now (HT5.out.ref.below hb6); clear hb6
      dsimp only
      refine hK.out _ _ trivial (fun hHeld => ?_)
      clear hK K
      try simp only [Act.put, List.setIfInBounds_toArray, List.set_cons_zero, List.set_cons_succ]
      refine kit6.take_y (i := 15) (v := ?_) rfl (by kernel_rfl) (by kernel_rfl) (by kernel_rfl) (fun _ _ _ h => h) (by rfl) (by assumption) ?_ ?_
      rotate_left
      · intro w hSw
        try dsimp only at hSw
        go_simp
        try with_reducible rfl
      try simp only [Act.put, List.setIfInBounds_toArray, List.set_cons_zero, List.set_cons_succ]
      refine kit6.take_y (i := 16) (v := ?_) rfl (by kernel_rfl) (by kernel_rfl) (by kernel_rfl) (fun _ _ _ h => h) (by rfl) (by assumption) ?_ ?_
      rotate_left
      · intro w hSw
        try dsimp only at hSw
        go_simp
        try with_reducible rfl
      try simp only [Act.put, List.setIfInBounds_toArray, List.set_cons_zero, List.set_cons_succ]
      refine kit6.take_y (i := 17) (v := ?_) rfl (by kernel_rfl) (by kernel_rfl) (by kernel_rfl) (fun _ _ _ h => h) (by rfl) (by assumption) ?_ ?_
      rotate_left
      · intro w hSw
        try dsimp only at hSw
        go_simp
        try with_reducible rfl
      try simp only [Act.put, List.setIfInBounds_toArray, List.set_cons_zero, List.set_cons_succ]
      refine kit6.take_y (i := 18) (v := ?_) rfl (by kernel_rfl) (by kernel_rfl) (by kernel_rfl) (fun _ _ _ h => h) (by rfl) (by assumption) ?_ ?_
      rotate_left
      · intro w hSw
        try dsimp only at hSw
        go_simp
        try with_reducible rfl
      try simp only [Act.put, List.setIfInBounds_toArray, List.set_cons_zero, List.set_cons_succ]
      refine kit6.take_y (i := 20) (v := ?_) rfl (by kernel_rfl) (by kernel_rfl) (by kernel_rfl) (fun _ _ _ h => h) (by rfl) (by assumption) ?_ ?_
      rotate_left
      · intro w hSw
        try dsimp only at hSw
        go_simp
        try with_reducible rfl
      try simp only [Act.put, List.setIfInBounds_toArray, List.set_cons_zero, List.set_cons_succ]
      refine wpAnyH_ready (rs := [19]) (by kernel_rfl) (by simp) ?_
      refine kit6.cons_l (i := 19) rfl (by rfl) (fun K hK => ?_) AllReadyH.nil
      go_simp
      go_at_call 17; refine (HNC.out _ (HT5.out.clk.below HB6.out)).mono ?_; rintro e w7 ⟨a7, c7, rfl, hr7, hb7⟩; have HR7 := Lib.hid hr7; have HB7 := Lib.hid (below_step HB6.out hb7); clear hr7 hb7
      dsimp only
      refine hK.out _ _ trivial (fun hHeld => ?_)
      clear hK K
      try simp only [Act.put, List.setIfInBounds_toArray, List.set_cons_zero, List.set_cons_succ]
      refine wpAnyH_ready (rs := [21]) (by kernel_rfl) (by simp) ?_
      refine kit6.cons_l (i := 21) rfl (by rfl) (fun K hK => ?_) AllReadyH.nil
      go_simp
      go_at_call 18; refine (HNR.out _ P5 (HT5.out.below HB7.out)).mono ?_; rintro e w8 ⟨a8, c8, rfl, hr8, hb8⟩; have HR8 := Lib.hid hr8; have HR78 := Lib.hid (own_below HR7.out hb8); have HB8 := Lib.hid (below_step HB7.out hb8); clear hr8 hb8
      dsimp only
      refine hK.out _ _ trivial (fun hHeld => ?_)
      clear hK K
      try simp only [Act.put, List.setIfInBounds_toArray, List.set_cons_zero, List.set_cons_succ]
      refine wpAnyH_ready (rs := [22]) (by kernel_rfl) (by simp) ?_
      refine kit6.cons_l (i := 22) rfl (by rfl) (fun K hK => ?_) AllReadyH.nil
      go_simp
      go_at_call 16; refine (plain_ok _ _ _ c7 c8 a7 a8 ns HR78.out HR8.out hl64).mono ?_; rintro e w9 ⟨rfl, hb9⟩; have HB9 := Lib.hid (below_step HB8.out hb9); clear hb9
      dsimp only
      refine hK.out _ _ trivial (fun hHeld => ?_)
      clear hK K
      try simp only [Act.put, List.setIfInBounds_toArray, List.set_cons_zero, List.set_cons_succ]
      refine kit6.take_y (i := 23) (v := ?_) rfl (by kernel_rfl) (by kernel_rfl) (by kernel_rfl) (fun _ _ _ h => h) (by rfl) (by assumption) ?_ ?_
      rotate_left
      · intro w hSw
        try dsimp only at hSw
        go_simp
        try with_reducible rfl
      try simp only [Act.put, List.setIfInBounds_toArray, List.set_cons_zero, List.set_cons_succ]
      refine kit6.take_y (i := 24) (v := ?_) rfl (by kernel_rfl) (by kernel_rfl) (by kernel_rfl) (fun _ _ _ h => h) (by rfl) (by assumption) ?_ ?_
      rotate_left
      · intro w hSw
        try dsimp only at hSw
        go_simp
        try with_reducible rfl
      try simp only [Act.put, List.setIfInBounds_toArray, List.set_cons_zero, List.set_cons_succ]
      refine wpAnyH_done (by kernel_rfl) ?_ _
      have HT9 := Lib.hid (HT5.out.below HB9.out)
      have HBW9 : Hid (Below w.heap.size w w9) := below_step HBW5.out HB9.out
      obtain ⟨hg9, s9⟩ := HRK.out w9 HBW9.out
      have HD1 := Lib.hid (due_ok w9 _ cb mb A' o.nm HT9.out.clk HO.out)
      have HD2 := Lib.hid (rdue_ok w9 _ rb A' P5 o.nm HT9.out.ref HT9.out.rel HT9.out.clk.ok)
      obtain ⟨dv, hdv⟩ : ∃ x, x = (dueS A' o.nm).getD 0 := ⟨_, rfl⟩
      obtain ⟨bv, hbv⟩ : ∃ x, x = (dueS A' o.nm).isSome := ⟨_, rfl⟩
      rw [← hdv, ← hbv] at HD1 HD2
      clear hdv hbv
      go_wp2_with fail
      refine HD1.out.mono ?_; rintro e w10 ⟨rfl, rfl⟩
      go_wp2_with fail
      refine HD2.out.mono ?_; rintro e w11 ⟨rfl, m11, rfl⟩
      have HT11 := Lib.hid (HT9.out.below (below_drewN (Below.refl _ w9) m11))
      have HBW11 := Lib.hid (below_drewN HBW9.out m11)
      go_wp2_with fail
      go_roundw
      case rel => exact ⟨k + 1, A', P5, by omega, by go_num, HGO, HT11, HBW11⟩
      case measure => simp [intOf]; omega
    · obtain rfl : k = l.length := by omega
      go_wp2_with fail
      go_ret
      exact ⟨rfl, HB.out⟩

theorem lawWalk {H : Type} (enc : TypeId × Value → H) : LawWalk enc Try.prog 4 Try.f4 (fun _ => True) := by
  intro W base args ds p hval hA hsz _
  rw [Try.params4] at hA hval hsz
  obtain ⟨v0, vs0, d0, ds0, p0, q0, hargs, rfl, rfl, h0, r0⟩ := trodAll_cons hA
  obtain ⟨rfl, rfl, rfl⟩ := trodAll_nil r0
  obtain rfl : args = #[v0] := Array.toList_inj.1 hargs
  obtain ⟨a, l, cap, es, sp, rfl, hlc, hcm, hn, hat, hd, hel, hsp, hgood⟩ := open_slice_gen 3 ocells (fun o _ => o.ok) Try.underlying22 (by kernel_rfl) (by omega) (fun n cs y _ h => elem_op n cs y h) (hval 0 22 v0 rfl rfl) h0
  refine plays_ok W a l cap ?_ hat (fun k hk => hgood k hk (by omega))
  rcases hd with ⟨_, rfl, _, _⟩ | rfl
  · exact Nat.zero_le _
  · have := many_c (j := 0) hsz rfl rfl
    omega

theorem own : ownKnob Try.prog.godebug = none := by kernel_rfl
theorem laidOut : laidOutB Try.prog = true := by kernel_rfl

set_option maxRecDepth 100000 in
theorem lifted (os : Os) (started : os.Started) (H : Type) (enc : TypeId × Value → H) :
    ReturnsInHanded {} Try.checked os 4 .any (Rows.clockPlaysSpec.pre6 enc Try.prog Try.f4 Rows.clockPlaysRow.domain false) (Rows.clockPlaysSpec.post enc Try.prog Try.f4 false true false false) := by
  refine returnsInHanded_of_change_sized (C := Try.checked) own started (by kernel_rfl) Try.func4
    (ChangeSpec.witness6 (enc := enc) (C := Try.checked) false ⟨#[], #[.slice none 0 0], []⟩ 8 (by kernel_rfl) (by kernel_rfl) (by kernel_rfl) (by kernel_rfl)) ?_
  intro W base args ds gs before hval hW hcnd hsz _
  exact law_post (C := Try.checked) laidOut (fun ds h => by match ds, h with | [_], _ => rfl) 4 rfl Try.underlying4 rfl (by kernel_rfl) hval hW hsz trivial (lawWalk enc)

theorem proved : Rows.ClockPlaysSaid :=
  OpenClaim.holds_of_wide 4 Try.f4 rfl rfl rfl rfl rfl rfl rfl ⟨rfl, rfl, rfl, rfl, rfl⟩ rfl rfl rfl rfl rfl (by kernel_rfl) Try.func4 (by kernel_rfl)
    (of_decide_eq_true (by kernel_rfl)) (by unfold Func.isWrapper; first | (rw [if_pos (by decide +kernel)]; kernel_rfl) | (rw [if_neg (by decide +kernel)]; exact ⟨rfl, rfl⟩))
    (fun os started H enc _ => lifted os started H enc)
#print axioms proved
end Go.Proofs.Ytejjnhgiijhglaa.clockPlays
