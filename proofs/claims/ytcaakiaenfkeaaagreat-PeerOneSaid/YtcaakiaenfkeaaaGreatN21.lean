/-
  Draw: a member is a candidate by a new ballot.
-/
import Derived.Test.YtcaakiaenfkeaaaGreatN19
import Derived.Test.YtcaakiaenfkeaaaGreatN20
import Derived.Test.YtcaakiaenfkeaaaGreatN14
import Derived.Test.YtcaakiaenfkeaaaGreatN10
namespace Go.Proofs.YtcaakiaenfkeaaaGreat.pedr
open Go.ChangeShapes Go.WideShapes Go.ChangeAt Go.RowKit
open Go.Proofs.YtcaakiaenfkeaaaGreat.kit Go.Proofs.YtcaakiaenfkeaaaGreat.mapkit Go.Proofs.YtcaakiaenfkeaaaGreat.byt Go.Proofs.YtcaakiaenfkeaaaGreat.own Go.Proofs.YtcaakiaenfkeaaaGreat.accd Go.Proofs.YtcaakiaenfkeaaaGreat.accb Go.Proofs.YtcaakiaenfkeaaaGreat.acce Go.Proofs.YtcaakiaenfkeaaaGreat.chd Go.Proofs.YtcaakiaenfkeaaaGreat.che Go.Proofs.YtcaakiaenfkeaaaGreat.ownr Go.Proofs.YtcaakiaenfkeaaaGreat.pep Go.Proofs.YtcaakiaenfkeaaaGreat.peb Go.Proofs.YtcaakiaenfkeaaaGreat.pem Go.Proofs.YtcaakiaenfkeaaaGreat.pen Go.Proofs.YtcaakiaenfkeaaaGreat.pes Go.Proofs.YtcaakiaenfkeaaaGreat.peq Go.Proofs.YtcaakiaenfkeaaaGreat.pee Go.Proofs.YtcaakiaenfkeaaaGreat.pet Go.Proofs.YtcaakiaenfkeaaaGreat.pert Go.Proofs.YtcaakiaenfkeaaaGreat.pepr
open Go.Proofs.YtcaakiaenfkeaaaGreat.bal (enoughB)
set_option linter.unusedVariables false
set_option linter.unusedSimpArgs false
set_option maxHeartbeats 40000000
set_option maxRecDepth 100000

theorem draw_nil (w : World) : Calls Tryz.prog 8 #[.pointer none] w fun e w' => e = .returned (.int .i64 2) ∧ w' = w := by
  go_enter Tryz.func8, Tryz.ntmps8
  go_wp2_with fail
  go_ret
  exact ⟨rfl, rfl⟩
/-- Rounds that may be. -/
def Rnd (M : PM) : Prop := -4611686018427387904 ≤ M.A.r ∧ M.A.r ≤ 4611686018427387904 ∧ -4611686018427387904 ≤ M.s1 ∧ M.s1 ≤ 4611686018427387904
theorem bal_two (w : World) (p q : Int × Int) : bal.BalLie (w.alloc (.cells #[.int .i64 p.1, .int .i64 p.2, .int .i64 q.1, .int .i64 q.2] 28)) (some ⟨w.heap.size, 0, none⟩) [p, q] := by
  refine .inr ⟨w.heap.size, 0, rfl, by rw [size_new]; omega, fun i hi => ?_⟩
  have hq := (kit.blk (hp_alloc_new w (.cells #[.int .i64 p.1, .int .i64 p.2, .int .i64 q.1, .int .i64 q.2] 28))).1
  match i, hi with
  | 0, _ => exact ⟨hq 0, hq 1⟩
  | 1, _ => exact ⟨hq 2, hq 3⟩
/-- From where a member's promise is asked for. -/
theorem prom_fr {w : World} {O : Owners} {i pb k : Nat} {M5 : PM} (f : Int) (h : PeerAt w O i pb { M5 with pr := fun j => if j < k then ⟨false, f, 0, sl0⟩ else ⟨false, 0, 0, sl0⟩ }) (hk : k < 6) :
    Behind w O i pb (Sf i 1) (w.setCell ⟨pb, 13 + k * 4 + 1, none⟩ (.int .i64 f)) { M5 with pr := fun j => if j < k + 1 then ⟨false, f, 0, sl0⟩ else ⟨false, 0, 0, sl0⟩ } := by
  refine peer_set (k := 13 + k * 4 + 1) h ?_ rfl rfl rfl rfl (fun j => ?_) (fun j => rfl)
  · rcases (by omega : k = 0 ∨ k = 1 ∨ k = 2 ∨ k = 3 ∨ k = 4 ∨ k = 5) with e | e | e | e | e | e
    all_goals
      subst e; kernel_rfl
  · dsimp only
    split <;> split <;> rfl
theorem prom_done {w : World} {O : Owners} {i pb nd : Nat} {M5 : PM} (f : Int) (h : PeerAt w O i pb { M5 with pr := fun j => if j < 6 then ⟨false, f, 0, sl0⟩ else ⟨false, 0, 0, sl0⟩ }) (hk : nd < 6) :
    Behind w O i pb (Sf i 1) (w.setCell ⟨pb, 13 + nd * 4, none⟩ (.bool true)) { M5 with pr := fun j => ⟨decide (j = nd), f, 0, sl0⟩ } := by
  refine peer_set (k := 13 + nd * 4) h ?_ rfl rfl rfl rfl (fun j => ?_) (fun j => rfl)
  · rcases (by omega : nd = 0 ∨ nd = 1 ∨ nd = 2 ∨ nd = 3 ∨ nd = 4 ∨ nd = 5) with e | e | e | e | e | e
    all_goals
      subst e; kernel_rfl
  · dsimp only
    split <;> rfl
theorem others_dat (M : PM) (x : LtM) (a : Option Addr) (c : Nat) : PM.dat { M with lt := ⟨a, c, M.lt.l ++ othL M x M.nodes.toNat⟩ } = M.dat.others x.dat := by
  have hk : ∀ k, PM.dat { M with lt := ⟨a, c, M.lt.l ++ othL M x k⟩ } = (upTo k).foldl (fun P d => if d = P.node then P else P.tell d x.dat) M.dat := by
    intro k
    induction k with
    | zero => simp [othL, upTo, PM.dat]
    | succ k ih =>
      rw [pep.upTo_succ, List.foldl_append, ← ih, othL_succ]
      show _ = (if (k : Int) + 1 = M.node then _ else _)
      by_cases h : (k : Int) + 1 = M.node
      · rw [if_pos h, if_pos h, List.append_nil]
      · rw [if_neg h, if_neg h, ← List.append_assoc]
        unfold PD.tell
        simp only [PM.dat, List.map_append, List.map_singleton]
        rfl
  exact hk M.nodes.toNat
theorem draw_ok (w : World) (O : Owners) (i pb : Nat) (M : PM) (h : PeerAt w O i pb M) (hr : Rnd M) (hn : 1 ≤ M.node ∧ M.node ≤ 5) (hcm : MayDraw M.dat) :
    Calls Tryz.prog 8 #[.pointer (some ⟨pb, 0, none⟩)] w fun e w' => e = .returned (.int .i64 0) ∧ ∃ M', M'.dat = M.dat.draw ∧ Behind w O i pb (Mine i) w' M' := by
  obtain ⟨r, hr0⟩ : ∃ r, r = M.dat.nextBal.1 := ⟨_, rfl⟩
  obtain ⟨mb, hmb⟩ : ∃ mb, mb = mostB M.dat.promised M.dat.seen := ⟨_, rfl⟩
  have x2 : w.cell? ⟨pb, 2, none⟩ = some (.pointer (some ⟨M.ab, 0, none⟩)) := (kit.blk h.blk).1 2
  have x0 : w.cell? ⟨pb, 0, none⟩ = some (.int .i64 M.node) := (kit.blk h.blk).1 0
  have x3 : w.cell? ⟨pb, 3, none⟩ = some (.int .i64 M.s1) := (kit.blk h.blk).1 3
  have x4 : w.cell? ⟨pb, 4, none⟩ = some (.int .i64 M.s2) := (kit.blk h.blk).1 4
  have hpz := (kit.blk h.blk).2.2
  have LPR : Hid (∀ W : World, Below w.heap.size w W → Calls Tryz.prog 19 #[.pointer (some ⟨M.ab, 0, none⟩)] W fun e w' => e = .returned (.agg #[.int .i64 M.A.r, .int .i64 M.A.n]) ∧ Below W.heap.size W w') := fun W hb => promised_ok W 0 M.ab M.mb M.A ((PeerAt.below h hb).parts.acc (fun x => x)).1
  have HX : Hid (∀ W : World, Below w.heap.size w W → W.cell? ⟨pb, 0, none⟩ = some (.int .i64 M.node) ∧ W.cell? ⟨pb, 3, none⟩ = some (.int .i64 M.s1) ∧ W.cell? ⟨pb, 4, none⟩ = some (.int .i64 M.s2) ∧ W.cell? ⟨pb, 2, none⟩ = some (.pointer (some ⟨M.ab, 0, none⟩))) := fun W hb => ⟨cell_step x0 hb, cell_step x3 hb, cell_step x4 hb, cell_step x2 hb⟩
  have LMG : ∀ (W V : World) (q : Nat), W.heap.size = q → Below (W.alloc (.cells #[.int .i64 M.A.r, .int .i64 M.A.n, .int .i64 M.s1, .int .i64 M.s2] 28)).heap.size (W.alloc (.cells #[.int .i64 M.A.r, .int .i64 M.A.n, .int .i64 M.s1, .int .i64 M.s2] 28)) V → Calls Tryz.prog 18 #[.slice (some ⟨q, 0, none⟩) 2 2] V fun e w' => e = .returned (.agg #[.int .i64 mb.1, .int .i64 mb.2]) ∧ Below V.heap.size V w' := by
    intro W V q hq hV
    subst hq
    refine (bal.most_any [(M.A.r, M.A.n), (M.s1, M.s2)] (some ⟨W.heap.size, 0, none⟩) 2 V (by simp) ((bal_two W (M.A.r, M.A.n) (M.s1, M.s2)).below hV)).mono ?_
    rintro e w' ⟨rfl, hb⟩
    rw [hmb]
    exact ⟨rfl, hb⟩
  have LMO : Hid (∀ W : World, Calls Tryz.prog 18 #[.slice (some ⟨W.heap.size, 0, none⟩) 2 2] (W.alloc (.cells #[.int .i64 M.A.r, .int .i64 M.A.n, .int .i64 M.s1, .int .i64 M.s2] 28)) fun e w' => e = .returned (.agg #[.int .i64 mb.1, .int .i64 mb.2]) ∧ Below (W.alloc (.cells #[.int .i64 M.A.r, .int .i64 M.A.n, .int .i64 M.s1, .int .i64 M.s2] 28)).heap.size (W.alloc (.cells #[.int .i64 M.A.r, .int .i64 M.A.n, .int .i64 M.s1, .int .i64 M.s2] 28)) w') := fun W => LMG W _ _ rfl (Below.refl _ _)
  have LMP : Hid (∀ (W : World) (o : Obj), Calls Tryz.prog 18 #[.slice (some ⟨W.heap.size, 0, none⟩) 2 2] ((W.alloc (.cells #[.int .i64 M.A.r, .int .i64 M.A.n, .int .i64 M.s1, .int .i64 M.s2] 28)).alloc o) fun e w' => e = .returned (.agg #[.int .i64 mb.1, .int .i64 mb.2]) ∧ Below ((W.alloc (.cells #[.int .i64 M.A.r, .int .i64 M.A.n, .int .i64 M.s1, .int .i64 M.s2] 28)).alloc o).heap.size ((W.alloc (.cells #[.int .i64 M.A.r, .int .i64 M.A.n, .int .i64 M.s1, .int .i64 M.s2] 28)).alloc o) w') := fun W o => LMG W _ _ rfl (below_new1 _ o)
  have LMQ : Hid (∀ (W : World) (o : Obj), Calls Tryz.prog 18 #[.slice (some ⟨W.heap.size + 1, 0, none⟩) 2 2] ((W.alloc o).alloc (.cells #[.int .i64 M.A.r, .int .i64 M.A.n, .int .i64 M.s1, .int .i64 M.s2] 28)) fun e w' => e = .returned (.agg #[.int .i64 mb.1, .int .i64 mb.2]) ∧ Below ((W.alloc o).alloc (.cells #[.int .i64 M.A.r, .int .i64 M.A.n, .int .i64 M.s1, .int .i64 M.s2] 28)).heap.size ((W.alloc o).alloc (.cells #[.int .i64 M.A.r, .int .i64 M.A.n, .int .i64 M.s1, .int .i64 M.s2] 28)) w') := fun W o => LMG (W.alloc o) _ _ (size_new _ _) (Below.refl _ _)
  clear LMG
  have LNE : Hid (∀ W : World, Calls Tryz.prog 17 #[.agg #[.int .i64 mb.1, .int .i64 mb.2], .int .i64 M.node] W fun e w' => e = .returned (.tuple #[.agg #[.int .i64 r, .int .i64 M.node], .int .i64 0]) ∧ Below W.heap.size W w') := by
    intro W
    have hm1 : -4611686018427387904 ≤ mb.1 ∧ mb.1 ≤ 4611686018427387904 := by
      rw [hmb]; unfold mostB
      split
      · exact ⟨hr.2.2.1, hr.2.2.2⟩
      · exact ⟨hr.1, hr.2.1⟩
    refine (bal.next_any mb.1 mb.2 M.node (by simp [Lit.wf, IntKind.min, IntKind.max, IntKind.signed, IntKind.bits]; omega) W).mono ?_
    rw [bal.nextB_ok (by omega) (by omega)]
    rintro e w' ⟨rfl, hb⟩
    refine ⟨?_, hb⟩
    rw [hr0]; show _ = Ending.returned (.tuple #[.agg #[.int .i64 (max ((mostB M.dat.promised M.dat.seen).1 + 1) 1), .int .i64 M.node], .int .i64 0])
    rw [← hmb]
  have X0 := HX.out
  have HP := Lib.hid h
  have HR0 := Lib.hid hr0
  have hCi : 0 ≤ M.index ∧ M.index ≤ 4398046511104 := by have h1 := hcm.i0; have h2 := hcm.en; exact ⟨h1, (by show M.dat.index ≤ _; omega)⟩
  have hCe : M.en.l.length ≤ 1000000000 := by have h1 := hcm.i0; have h2 := hcm.en; have h3 : M.dat.entries.length = M.en.l.length := List.length_map _; omega
  have hLt : M.lt.l.length ≤ 900000000 := by have h2 := hcm.lt; have h3 : M.dat.letters.length = M.lt.l.length := List.length_map _; omega
  have hNt : M.nt.l.length ≤ 900000000 := by have h2 := hcm.nt; have h3 : M.dat.notes.length = M.nt.l.length := List.length_map _; omega
  have HCI := Lib.hid hCi
  have HCE := Lib.hid hCe
  have HLT := Lib.hid hLt
  have HNT := Lib.hid hNt
  have HCM := Lib.hid hcm
  obtain ⟨nd, hnd, hnd5⟩ : ∃ nd : Nat, M.node = (nd : Int) ∧ nd ≤ 5 := ⟨M.node.toNat, by omega, by omega⟩
  have HND := Lib.hid hnd
  clear h X0 hr0 hmb hr hCi hCe hLt hNt hcm hn hnd
  go_enter Tryz.func8, Tryz.ntmps8
  go_upto_region 3 with fail
  go_cut [3, 4] from 10 to 29 (fun q v wx => ∃ qb, q = .pointer (some ⟨qb, 0, none⟩) ∧ v = .int .i64 0 ∧ Hid (Below w.heap.size w wx ∧ w.heap.size ≤ qb ∧ wx.heap[qb]? = some (.cells #[.int .i64 r, .int .i64 M.node] 28 (0, 0))))
  case first =>
    have hB : Below w.heap.size w w.drew := below_drewN (Below.refl _ w) 1
    refine wp_region_held_drew (S := (fun w' => w'.cell? ⟨pb, 0, none⟩ = some (.int .i64 M.node) ∧ w'.cell? ⟨pb, 3, none⟩ = some (.int .i64 M.s1) ∧ w'.cell? ⟨pb, 4, none⟩ = some (.int .i64 M.s2) ∧ w'.cell? ⟨pb, 2, none⟩ = some (.pointer (some ⟨M.ab, 0, none⟩)))) (by kernel_rfl) (HX.out _ hB) (fun hHeld => ?_)
    refine kit6.take_y (i := 0) (v := ?_) rfl (by kernel_rfl) (by kernel_rfl) (by kernel_rfl) (fun _ _ _ h => h) (by rfl) (by assumption) ?_ ?_
    rotate_left
    · intro w hSw
      try dsimp only at hSw
      go_simp
      try with_reducible rfl
    try simp only [Act.put, List.setIfInBounds_toArray, List.set_cons_zero, List.set_cons_succ]
    refine kit6.take_y (i := 1) (v := ?_) rfl (by kernel_rfl) (by kernel_rfl) (by kernel_rfl) (fun _ _ _ h => h) (by rfl) (by assumption) ?_ ?_
    rotate_left
    · intro w hSw
      try dsimp only at hSw
      go_simp
      try with_reducible rfl
    try simp only [Act.put, List.setIfInBounds_toArray, List.set_cons_zero, List.set_cons_succ]
    refine kit6.take_y (i := 2) (v := ?_) rfl (by kernel_rfl) (by kernel_rfl) (by kernel_rfl) (fun _ _ _ h => h) (by rfl) (by assumption) ?_ ?_
    rotate_left
    · intro w hSw
      try dsimp only at hSw
      go_simp
      try with_reducible rfl
    try simp only [Act.put, List.setIfInBounds_toArray, List.set_cons_zero, List.set_cons_succ]
    refine kit6.take_y (i := 3) (v := ?_) rfl (by kernel_rfl) (by kernel_rfl) (by kernel_rfl) (fun _ _ _ h => h) (by rfl) (by assumption) ?_ ?_
    rotate_left
    · intro w hSw
      try dsimp only at hSw
      go_simp
      try with_reducible rfl
    try simp only [Act.put, List.setIfInBounds_toArray, List.set_cons_zero, List.set_cons_succ]
    refine kit6.take_y (i := 4) (v := ?_) rfl (by kernel_rfl) (by kernel_rfl) (by kernel_rfl) (fun _ _ _ h => h) (by rfl) (by assumption) ?_ ?_
    rotate_left
    · intro w hSw
      try dsimp only at hSw
      go_simp
      try with_reducible rfl
    try simp only [Act.put, List.setIfInBounds_toArray, List.set_cons_zero, List.set_cons_succ]
    refine kit6.take_y (i := 6) (v := ?_) rfl (by kernel_rfl) (by kernel_rfl) (by kernel_rfl) (fun _ _ _ h => h) (by rfl) (by assumption) ?_ ?_
    rotate_left
    · intro w hSw
      try dsimp only at hSw
      go_simp
      try with_reducible rfl
    try simp only [Act.put, List.setIfInBounds_toArray, List.set_cons_zero, List.set_cons_succ]
    refine kit6.take_y (i := 7) (v := ?_) rfl (by kernel_rfl) (by kernel_rfl) (by kernel_rfl) (fun _ _ _ h => h) (by rfl) (by assumption) ?_ ?_
    rotate_left
    · intro w hSw
      try dsimp only at hSw
      go_simp
      try with_reducible rfl
    try simp only [Act.put, List.setIfInBounds_toArray, List.set_cons_zero, List.set_cons_succ]
    refine kit6.take_y (i := 8) (v := ?_) rfl (by kernel_rfl) (by kernel_rfl) (by kernel_rfl) (fun _ _ _ h => h) (by rfl) (by assumption) ?_ ?_
    rotate_left
    · intro w hSw
      try dsimp only at hSw
      go_simp
      try with_reducible rfl
    try simp only [Act.put, List.setIfInBounds_toArray, List.set_cons_zero, List.set_cons_succ]
    refine kit6.take_y (i := 9) (v := ?_) rfl (by kernel_rfl) (by kernel_rfl) (by kernel_rfl) (fun _ _ _ h => h) (by rfl) (by assumption) ?_ ?_
    rotate_left
    · intro w hSw
      try dsimp only at hSw
      go_simp
      try with_reducible rfl
    try simp only [Act.put, List.setIfInBounds_toArray, List.set_cons_zero, List.set_cons_succ]
    refine kit6.take_y (i := 10) (v := ?_) rfl (by kernel_rfl) (by kernel_rfl) (by kernel_rfl) (fun _ _ _ h => h) (by rfl) (by assumption) ?_ ?_
    rotate_left
    · intro w hSw
      try dsimp only at hSw
      go_simp
      try with_reducible rfl
    try simp only [Act.put, List.setIfInBounds_toArray, List.set_cons_zero, List.set_cons_succ]
    refine kit6.take_y (i := 13) (v := ?_) rfl (by kernel_rfl) (by kernel_rfl) (by kernel_rfl) (fun _ _ _ h => h) (by rfl) (by assumption) ?_ ?_
    rotate_left
    · intro w hSw
      try dsimp only at hSw
      go_simp
      try with_reducible rfl
    try simp only [Act.put, List.setIfInBounds_toArray, List.set_cons_zero, List.set_cons_succ]
    refine kit6.take_y (i := 14) (v := ?_) rfl (by kernel_rfl) (by kernel_rfl) (by kernel_rfl) (fun _ _ _ h => h) (by rfl) (by assumption) ?_ ?_
    rotate_left
    · intro w hSw
      try dsimp only at hSw
      go_simp
      try with_reducible rfl
    try simp only [Act.put, List.setIfInBounds_toArray, List.set_cons_zero, List.set_cons_succ]
    refine kit6.take_y (i := 15) (v := ?_) rfl (by kernel_rfl) (by kernel_rfl) (by kernel_rfl) (fun _ _ _ h => h) (by rfl) (by assumption) ?_ ?_
    rotate_left
    · intro w hSw
      try dsimp only at hSw
      go_simp
      try with_reducible rfl
    try simp only [Act.put, List.setIfInBounds_toArray, List.set_cons_zero, List.set_cons_succ]
    refine kit6.take_y (i := 16) (v := ?_) rfl (by kernel_rfl) (by kernel_rfl) (by kernel_rfl) (fun _ _ _ h => h) (by rfl) (by assumption) ?_ ?_
    rotate_left
    · intro w hSw
      try dsimp only at hSw
      go_simp
      try with_reducible rfl
    try simp only [Act.put, List.setIfInBounds_toArray, List.set_cons_zero, List.set_cons_succ]
    refine wpAnyH_ready (rs := [5, 21]) (by kernel_rfl) (by simp) ?_
    refine kit6.cons_l (i := 5) rfl (by rfl) (fun K hK => ?_) ?_
    · as_aux_lemma =>
        go_simp
        go_at_call 19; refine (LPR.out _ hB).mono ?_; rintro e wn ⟨rfl, hbn⟩
        dsimp only
        have hB := below_step hB hbn
        refine hK.out _ _ (HX.out _ hB) (fun hHeld => ?_)
        clear hK K
        try simp only [Act.put, List.setIfInBounds_toArray, List.set_cons_zero, List.set_cons_succ]
        refine wpAnyH_ready (rs := [11, 21]) (by kernel_rfl) (by simp) ?_
        refine kit6.cons_l (i := 11) rfl (by rfl) (fun K hK => ?_) ?_
        · as_aux_lemma =>
            go_simp
            have hB := below_step hB (below_new1 _ (.cells #[.int .i64 M.A.r, .int .i64 M.A.n, .int .i64 M.s1, .int .i64 M.s2] 28))
            refine hK.out _ _ (HX.out _ hB) (fun hHeld => ?_)
            clear hK K
            try simp only [Act.put, List.setIfInBounds_toArray, List.set_cons_zero, List.set_cons_succ]
            refine wpAnyH_ready (rs := [12, 21]) (by kernel_rfl) (by simp) ?_
            refine kit6.cons_l (i := 12) rfl (by rfl) (fun K hK => ?_) ?_
            · as_aux_lemma =>
                go_simp
                go_at_call 18; refine (LMO.out wn).mono ?_; rintro e wm ⟨rfl, hbm⟩
                dsimp only
                have hB := below_step hB hbm
                refine hK.out _ _ (HX.out _ hB) (fun hHeld => ?_)
                clear hK K
                try simp only [Act.put, List.setIfInBounds_toArray, List.set_cons_zero, List.set_cons_succ]
                refine wpAnyH_ready (rs := [17, 21]) (by kernel_rfl) (by simp) ?_
                refine kit6.cons_l (i := 17) rfl (by rfl) (fun K hK => ?_) ?_
                · as_aux_lemma =>
                    go_simp
                    go_at_call 17; refine (LNE.out _).mono ?_; rintro e wo ⟨rfl, hbo⟩
                    dsimp only
                    have hB := below_step hB hbo
                    refine hK.out _ _ (HX.out _ hB) (fun hHeld => ?_)
                    clear hK K
                    try simp only [Act.put, List.setIfInBounds_toArray, List.set_cons_zero, List.set_cons_succ]
                    refine kit6.take_y (i := 18) (v := ?_) rfl (by kernel_rfl) (by kernel_rfl) (by kernel_rfl) (fun _ _ _ h => h) (by rfl) (by assumption) ?_ ?_
                    rotate_left
                    · intro w hSw
                      try dsimp only at hSw
                      go_simp
                      try with_reducible rfl
                    try simp only [Act.put, List.setIfInBounds_toArray, List.set_cons_zero, List.set_cons_succ]
                    refine kit6.take_y (i := 19) (v := ?_) rfl (by kernel_rfl) (by kernel_rfl) (by kernel_rfl) (fun _ _ _ h => h) (by rfl) (by assumption) ?_ ?_
                    rotate_left
                    · intro w hSw
                      try dsimp only at hSw
                      go_simp
                      try with_reducible rfl
                    try simp only [Act.put, List.setIfInBounds_toArray, List.set_cons_zero, List.set_cons_succ]
                    refine kit6.take_y (i := 20) (v := ?_) rfl (by kernel_rfl) (by kernel_rfl) (by kernel_rfl) (fun _ _ _ h => h) (by rfl) (by assumption) ?_ ?_
                    rotate_left
                    · intro w hSw
                      try dsimp only at hSw
                      go_simp
                      try with_reducible rfl
                    try simp only [Act.put, List.setIfInBounds_toArray, List.set_cons_zero, List.set_cons_succ]
                    refine wpAnyH_ready (rs := [21]) (by kernel_rfl) (by simp) ?_
                    refine kit6.cons_l (i := 21) rfl (by rfl) (fun K hK => ?_) AllReadyH.nil
                    go_simp
                    have hB0 := hB
                    have bq : (World.alloc wo (.cells #[.int .i64 0, .int .i64 0] 28)).heap[wo.heap.size]? = some (.cells #[.int .i64 0, .int .i64 0] 28 (0, 0)) := hp_alloc_new wo _
                    have hqz : w.heap.size ≤ wo.heap.size := hB.size
                    have hB := below_step hB (below_new1 _ (.cells #[.int .i64 0, .int .i64 0] 28))
                    refine hK.out _ _ (HX.out _ hB) (fun hHeld => ?_)
                    clear hK K
                    try simp only [Act.put, List.setIfInBounds_toArray, List.set_cons_zero, List.set_cons_succ]
                    refine wpAnyH_ready (rs := [22]) (by kernel_rfl) (by simp) ?_
                    refine kit6.cons_l (i := 22) rfl (by rfl) (fun K hK => ?_) AllReadyH.nil
                    obtain ⟨k0, k1, k2, k3, k4⟩ := blk2 bq
                    go_simp
                    have hB := below_step hB0 (below_new1 _ (.cells #[.int .i64 r, .int .i64 M.node] 28))
                    have bq := hp_alloc_new wo (.cells #[.int .i64 r, .int .i64 M.node] 28)
                    refine hK.out _ _ (HX.out _ hB) (fun hHeld => ?_)
                    clear hK K
                    try simp only [Act.put, List.setIfInBounds_toArray, List.set_cons_zero, List.set_cons_succ]
                    refine kit6.take_y (i := 23) (v := ?_) rfl (by kernel_rfl) (by kernel_rfl) (by kernel_rfl) (fun _ _ _ h => h) (by rfl) (by assumption) ?_ ?_
                    rotate_left
                    · intro w hSw
                      try dsimp only at hSw
                      go_simp
                      try with_reducible rfl
                    try simp only [Act.put, List.setIfInBounds_toArray, List.set_cons_zero, List.set_cons_succ]
                    refine wpAnyH_done (by kernel_rfl) ?_ _
                    go_wp2_with fail
                    go_meet
                    case rel => exact ⟨_, rfl, rfl, hB, hqz, bq⟩
                refine kit6.cons_l (i := 21) rfl (by rfl) (fun K hK => ?_) AllReadyH.nil
                as_aux_lemma =>
                  go_simp
                  have hB0 := hB
                  have bq : (World.alloc wm (.cells #[.int .i64 0, .int .i64 0] 28)).heap[wm.heap.size]? = some (.cells #[.int .i64 0, .int .i64 0] 28 (0, 0)) := hp_alloc_new wm _
                  have hqz : w.heap.size ≤ wm.heap.size := hB.size
                  have hB := below_step hB (below_new1 _ (.cells #[.int .i64 0, .int .i64 0] 28))
                  refine hK.out _ _ (HX.out _ hB) (fun hHeld => ?_)
                  clear hK K
                  try simp only [Act.put, List.setIfInBounds_toArray, List.set_cons_zero, List.set_cons_succ]
                  refine wpAnyH_ready (rs := [17]) (by kernel_rfl) (by simp) ?_
                  refine kit6.cons_l (i := 17) rfl (by rfl) (fun K hK => ?_) AllReadyH.nil
                  go_simp
                  go_at_call 17; refine (LNE.out _).mono ?_; rintro e wo ⟨rfl, hbo⟩
                  dsimp only
                  have hB := below_step hB hbo
                  have bq := hp_step bq hbo
                  refine hK.out _ _ (HX.out _ hB) (fun hHeld => ?_)
                  clear hK K
                  try simp only [Act.put, List.setIfInBounds_toArray, List.set_cons_zero, List.set_cons_succ]
                  refine kit6.take_y (i := 18) (v := ?_) rfl (by kernel_rfl) (by kernel_rfl) (by kernel_rfl) (fun _ _ _ h => h) (by rfl) (by assumption) ?_ ?_
                  rotate_left
                  · intro w hSw
                    try dsimp only at hSw
                    go_simp
                    try with_reducible rfl
                  try simp only [Act.put, List.setIfInBounds_toArray, List.set_cons_zero, List.set_cons_succ]
                  refine kit6.take_y (i := 19) (v := ?_) rfl (by kernel_rfl) (by kernel_rfl) (by kernel_rfl) (fun _ _ _ h => h) (by rfl) (by assumption) ?_ ?_
                  rotate_left
                  · intro w hSw
                    try dsimp only at hSw
                    go_simp
                    try with_reducible rfl
                  try simp only [Act.put, List.setIfInBounds_toArray, List.set_cons_zero, List.set_cons_succ]
                  refine kit6.take_y (i := 20) (v := ?_) rfl (by kernel_rfl) (by kernel_rfl) (by kernel_rfl) (fun _ _ _ h => h) (by rfl) (by assumption) ?_ ?_
                  rotate_left
                  · intro w hSw
                    try dsimp only at hSw
                    go_simp
                    try with_reducible rfl
                  try simp only [Act.put, List.setIfInBounds_toArray, List.set_cons_zero, List.set_cons_succ]
                  refine wpAnyH_ready (rs := [22]) (by kernel_rfl) (by simp) ?_
                  refine kit6.cons_l (i := 22) rfl (by rfl) (fun K hK => ?_) AllReadyH.nil
                  obtain ⟨k0, k1, k2, k3, k4⟩ := blk2 bq
                  go_simp
                  have hB := (hB.setCell (p := ⟨wm.heap.size, 0, none⟩) hqz (.int .i64 r)).setCell (p := ⟨wm.heap.size, 1, none⟩) hqz (.int .i64 M.node)
                  have bq := hp_set (hp_set bq 0 (.int .i64 r)) 1 (.int .i64 M.node)
                  refine hK.out _ _ (HX.out _ hB) (fun hHeld => ?_)
                  clear hK K
                  try simp only [Act.put, List.setIfInBounds_toArray, List.set_cons_zero, List.set_cons_succ]
                  refine kit6.take_y (i := 23) (v := ?_) rfl (by kernel_rfl) (by kernel_rfl) (by kernel_rfl) (fun _ _ _ h => h) (by rfl) (by assumption) ?_ ?_
                  rotate_left
                  · intro w hSw
                    try dsimp only at hSw
                    go_simp
                    try with_reducible rfl
                  try simp only [Act.put, List.setIfInBounds_toArray, List.set_cons_zero, List.set_cons_succ]
                  refine wpAnyH_done (by kernel_rfl) ?_ _
                  go_wp2_with fail
                  go_meet
                  case rel => exact ⟨_, rfl, rfl, hB, hqz, bq⟩
            refine kit6.cons_l (i := 21) rfl (by rfl) (fun K hK => ?_) AllReadyH.nil
            as_aux_lemma =>
              go_simp
              have hB0 := hB
              have bq : (World.alloc (wn.alloc (.cells #[.int .i64 M.A.r, .int .i64 M.A.n, .int .i64 M.s1, .int .i64 M.s2] 28)) (.cells #[.int .i64 0, .int .i64 0] 28)).heap[(wn.heap.size + 1)]? = some (.cells #[.int .i64 0, .int .i64 0] 28 (0, 0)) := (by have h := hp_alloc_new (wn.alloc (.cells #[.int .i64 M.A.r, .int .i64 M.A.n, .int .i64 M.s1, .int .i64 M.s2] 28)) (.cells #[.int .i64 0, .int .i64 0] 28); rwa [size_new] at h)
              have hqz : w.heap.size ≤ (wn.heap.size + 1) := (by have h := hB.size; rwa [size_new] at h)
              have hB := below_step hB (below_new1 _ (.cells #[.int .i64 0, .int .i64 0] 28))
              refine hK.out _ _ (HX.out _ hB) (fun hHeld => ?_)
              clear hK K
              try simp only [Act.put, List.setIfInBounds_toArray, List.set_cons_zero, List.set_cons_succ]
              refine wpAnyH_ready (rs := [12]) (by kernel_rfl) (by simp) ?_
              refine kit6.cons_l (i := 12) rfl (by rfl) (fun K hK => ?_) AllReadyH.nil
              go_simp
              go_at_call 18; refine (LMP.out wn _).mono ?_; rintro e wm ⟨rfl, hbm⟩
              dsimp only
              have hB := below_step hB hbm
              have bq := hp_step bq hbm
              refine hK.out _ _ (HX.out _ hB) (fun hHeld => ?_)
              clear hK K
              try simp only [Act.put, List.setIfInBounds_toArray, List.set_cons_zero, List.set_cons_succ]
              refine wpAnyH_ready (rs := [17]) (by kernel_rfl) (by simp) ?_
              refine kit6.cons_l (i := 17) rfl (by rfl) (fun K hK => ?_) AllReadyH.nil
              go_simp
              go_at_call 17; refine (LNE.out _).mono ?_; rintro e wo ⟨rfl, hbo⟩
              dsimp only
              have hB := below_step hB hbo
              have bq := hp_step bq hbo
              refine hK.out _ _ (HX.out _ hB) (fun hHeld => ?_)
              clear hK K
              try simp only [Act.put, List.setIfInBounds_toArray, List.set_cons_zero, List.set_cons_succ]
              refine kit6.take_y (i := 18) (v := ?_) rfl (by kernel_rfl) (by kernel_rfl) (by kernel_rfl) (fun _ _ _ h => h) (by rfl) (by assumption) ?_ ?_
              rotate_left
              · intro w hSw
                try dsimp only at hSw
                go_simp
                try with_reducible rfl
              try simp only [Act.put, List.setIfInBounds_toArray, List.set_cons_zero, List.set_cons_succ]
              refine kit6.take_y (i := 19) (v := ?_) rfl (by kernel_rfl) (by kernel_rfl) (by kernel_rfl) (fun _ _ _ h => h) (by rfl) (by assumption) ?_ ?_
              rotate_left
              · intro w hSw
                try dsimp only at hSw
                go_simp
                try with_reducible rfl
              try simp only [Act.put, List.setIfInBounds_toArray, List.set_cons_zero, List.set_cons_succ]
              refine kit6.take_y (i := 20) (v := ?_) rfl (by kernel_rfl) (by kernel_rfl) (by kernel_rfl) (fun _ _ _ h => h) (by rfl) (by assumption) ?_ ?_
              rotate_left
              · intro w hSw
                try dsimp only at hSw
                go_simp
                try with_reducible rfl
              try simp only [Act.put, List.setIfInBounds_toArray, List.set_cons_zero, List.set_cons_succ]
              refine wpAnyH_ready (rs := [22]) (by kernel_rfl) (by simp) ?_
              refine kit6.cons_l (i := 22) rfl (by rfl) (fun K hK => ?_) AllReadyH.nil
              obtain ⟨k0, k1, k2, k3, k4⟩ := blk2 bq
              go_simp
              have hB := (hB.setCell (p := ⟨(wn.heap.size + 1), 0, none⟩) hqz (.int .i64 r)).setCell (p := ⟨(wn.heap.size + 1), 1, none⟩) hqz (.int .i64 M.node)
              have bq := hp_set (hp_set bq 0 (.int .i64 r)) 1 (.int .i64 M.node)
              refine hK.out _ _ (HX.out _ hB) (fun hHeld => ?_)
              clear hK K
              try simp only [Act.put, List.setIfInBounds_toArray, List.set_cons_zero, List.set_cons_succ]
              refine kit6.take_y (i := 23) (v := ?_) rfl (by kernel_rfl) (by kernel_rfl) (by kernel_rfl) (fun _ _ _ h => h) (by rfl) (by assumption) ?_ ?_
              rotate_left
              · intro w hSw
                try dsimp only at hSw
                go_simp
                try with_reducible rfl
              try simp only [Act.put, List.setIfInBounds_toArray, List.set_cons_zero, List.set_cons_succ]
              refine wpAnyH_done (by kernel_rfl) ?_ _
              go_wp2_with fail
              go_meet
              case rel => exact ⟨_, rfl, rfl, hB, hqz, bq⟩
        refine kit6.cons_l (i := 21) rfl (by rfl) (fun K hK => ?_) AllReadyH.nil
        as_aux_lemma =>
          go_simp
          have hB0 := hB
          have bq : (World.alloc wn (.cells #[.int .i64 0, .int .i64 0] 28)).heap[wn.heap.size]? = some (.cells #[.int .i64 0, .int .i64 0] 28 (0, 0)) := hp_alloc_new wn _
          have hqz : w.heap.size ≤ wn.heap.size := hB.size
          have hB := below_step hB (below_new1 _ (.cells #[.int .i64 0, .int .i64 0] 28))
          refine hK.out _ _ (HX.out _ hB) (fun hHeld => ?_)
          clear hK K
          try simp only [Act.put, List.setIfInBounds_toArray, List.set_cons_zero, List.set_cons_succ]
          refine wpAnyH_ready (rs := [11]) (by kernel_rfl) (by simp) ?_
          refine kit6.cons_l (i := 11) rfl (by rfl) (fun K hK => ?_) AllReadyH.nil
          go_simp
          have hB := below_step hB (below_new1 _ (.cells #[.int .i64 M.A.r, .int .i64 M.A.n, .int .i64 M.s1, .int .i64 M.s2] 28))
          have bq := hp_new (o := (.cells #[.int .i64 M.A.r, .int .i64 M.A.n, .int .i64 M.s1, .int .i64 M.s2] 28)) bq
          refine hK.out _ _ (HX.out _ hB) (fun hHeld => ?_)
          clear hK K
          try simp only [Act.put, List.setIfInBounds_toArray, List.set_cons_zero, List.set_cons_succ]
          refine wpAnyH_ready (rs := [12]) (by kernel_rfl) (by simp) ?_
          refine kit6.cons_l (i := 12) rfl (by rfl) (fun K hK => ?_) AllReadyH.nil
          go_simp
          go_at_call 18; refine (LMQ.out wn _).mono ?_; rintro e wm ⟨rfl, hbm⟩
          dsimp only
          have hB := below_step hB hbm
          have bq := hp_step bq hbm
          refine hK.out _ _ (HX.out _ hB) (fun hHeld => ?_)
          clear hK K
          try simp only [Act.put, List.setIfInBounds_toArray, List.set_cons_zero, List.set_cons_succ]
          refine wpAnyH_ready (rs := [17]) (by kernel_rfl) (by simp) ?_
          refine kit6.cons_l (i := 17) rfl (by rfl) (fun K hK => ?_) AllReadyH.nil
          go_simp
          go_at_call 17; refine (LNE.out _).mono ?_; rintro e wo ⟨rfl, hbo⟩
          dsimp only
          have hB := below_step hB hbo
          have bq := hp_step bq hbo
          refine hK.out _ _ (HX.out _ hB) (fun hHeld => ?_)
          clear hK K
          try simp only [Act.put, List.setIfInBounds_toArray, List.set_cons_zero, List.set_cons_succ]
          refine kit6.take_y (i := 18) (v := ?_) rfl (by kernel_rfl) (by kernel_rfl) (by kernel_rfl) (fun _ _ _ h => h) (by rfl) (by assumption) ?_ ?_
          rotate_left
          · intro w hSw
            try dsimp only at hSw
            go_simp
            try with_reducible rfl
          try simp only [Act.put, List.setIfInBounds_toArray, List.set_cons_zero, List.set_cons_succ]
          refine kit6.take_y (i := 19) (v := ?_) rfl (by kernel_rfl) (by kernel_rfl) (by kernel_rfl) (fun _ _ _ h => h) (by rfl) (by assumption) ?_ ?_
          rotate_left
          · intro w hSw
            try dsimp only at hSw
            go_simp
            try with_reducible rfl
          try simp only [Act.put, List.setIfInBounds_toArray, List.set_cons_zero, List.set_cons_succ]
          refine kit6.take_y (i := 20) (v := ?_) rfl (by kernel_rfl) (by kernel_rfl) (by kernel_rfl) (fun _ _ _ h => h) (by rfl) (by assumption) ?_ ?_
          rotate_left
          · intro w hSw
            try dsimp only at hSw
            go_simp
            try with_reducible rfl
          try simp only [Act.put, List.setIfInBounds_toArray, List.set_cons_zero, List.set_cons_succ]
          refine wpAnyH_ready (rs := [22]) (by kernel_rfl) (by simp) ?_
          refine kit6.cons_l (i := 22) rfl (by rfl) (fun K hK => ?_) AllReadyH.nil
          obtain ⟨k0, k1, k2, k3, k4⟩ := blk2 bq
          go_simp
          have hB := (hB.setCell (p := ⟨wn.heap.size, 0, none⟩) hqz (.int .i64 r)).setCell (p := ⟨wn.heap.size, 1, none⟩) hqz (.int .i64 M.node)
          have bq := hp_set (hp_set bq 0 (.int .i64 r)) 1 (.int .i64 M.node)
          refine hK.out _ _ (HX.out _ hB) (fun hHeld => ?_)
          clear hK K
          try simp only [Act.put, List.setIfInBounds_toArray, List.set_cons_zero, List.set_cons_succ]
          refine kit6.take_y (i := 23) (v := ?_) rfl (by kernel_rfl) (by kernel_rfl) (by kernel_rfl) (fun _ _ _ h => h) (by rfl) (by assumption) ?_ ?_
          rotate_left
          · intro w hSw
            try dsimp only at hSw
            go_simp
            try with_reducible rfl
          try simp only [Act.put, List.setIfInBounds_toArray, List.set_cons_zero, List.set_cons_succ]
          refine wpAnyH_done (by kernel_rfl) ?_ _
          go_wp2_with fail
          go_meet
          case rel => exact ⟨_, rfl, rfl, hB, hqz, bq⟩
    refine kit6.cons_l (i := 21) rfl (by rfl) (fun K hK => ?_) AllReadyH.nil
    as_aux_lemma =>
      go_simp
      have hB0 := hB
      have bq : (World.alloc w.drew (.cells #[.int .i64 0, .int .i64 0] 28)).heap[w.heap.size]? = some (.cells #[.int .i64 0, .int .i64 0] 28 (0, 0)) := hp_alloc_new w.drew _
      have hqz : w.heap.size ≤ w.heap.size := hB.size
      have hB := below_step hB (below_new1 _ (.cells #[.int .i64 0, .int .i64 0] 28))
      refine hK.out _ _ (HX.out _ hB) (fun hHeld => ?_)
      clear hK K
      try simp only [Act.put, List.setIfInBounds_toArray, List.set_cons_zero, List.set_cons_succ]
      refine wpAnyH_ready (rs := [5]) (by kernel_rfl) (by simp) ?_
      refine kit6.cons_l (i := 5) rfl (by rfl) (fun K hK => ?_) AllReadyH.nil
      go_simp
      go_at_call 19; refine (LPR.out _ hB).mono ?_; rintro e wn ⟨rfl, hbn⟩
      dsimp only
      have hB := below_step hB hbn
      have bq := hp_step bq hbn
      refine hK.out _ _ (HX.out _ hB) (fun hHeld => ?_)
      clear hK K
      try simp only [Act.put, List.setIfInBounds_toArray, List.set_cons_zero, List.set_cons_succ]
      refine wpAnyH_ready (rs := [11]) (by kernel_rfl) (by simp) ?_
      refine kit6.cons_l (i := 11) rfl (by rfl) (fun K hK => ?_) AllReadyH.nil
      go_simp
      have hB := below_step hB (below_new1 _ (.cells #[.int .i64 M.A.r, .int .i64 M.A.n, .int .i64 M.s1, .int .i64 M.s2] 28))
      have bq := hp_new (o := (.cells #[.int .i64 M.A.r, .int .i64 M.A.n, .int .i64 M.s1, .int .i64 M.s2] 28)) bq
      refine hK.out _ _ (HX.out _ hB) (fun hHeld => ?_)
      clear hK K
      try simp only [Act.put, List.setIfInBounds_toArray, List.set_cons_zero, List.set_cons_succ]
      refine wpAnyH_ready (rs := [12]) (by kernel_rfl) (by simp) ?_
      refine kit6.cons_l (i := 12) rfl (by rfl) (fun K hK => ?_) AllReadyH.nil
      go_simp
      go_at_call 18; refine (LMO.out wn).mono ?_; rintro e wm ⟨rfl, hbm⟩
      dsimp only
      have hB := below_step hB hbm
      have bq := hp_step bq hbm
      refine hK.out _ _ (HX.out _ hB) (fun hHeld => ?_)
      clear hK K
      try simp only [Act.put, List.setIfInBounds_toArray, List.set_cons_zero, List.set_cons_succ]
      refine wpAnyH_ready (rs := [17]) (by kernel_rfl) (by simp) ?_
      refine kit6.cons_l (i := 17) rfl (by rfl) (fun K hK => ?_) AllReadyH.nil
      go_simp
      go_at_call 17; refine (LNE.out _).mono ?_; rintro e wo ⟨rfl, hbo⟩
      dsimp only
      have hB := below_step hB hbo
      have bq := hp_step bq hbo
      refine hK.out _ _ (HX.out _ hB) (fun hHeld => ?_)
      clear hK K
      try simp only [Act.put, List.setIfInBounds_toArray, List.set_cons_zero, List.set_cons_succ]
      refine kit6.take_y (i := 18) (v := ?_) rfl (by kernel_rfl) (by kernel_rfl) (by kernel_rfl) (fun _ _ _ h => h) (by rfl) (by assumption) ?_ ?_
      rotate_left
      · intro w hSw
        try dsimp only at hSw
        go_simp
        try with_reducible rfl
      try simp only [Act.put, List.setIfInBounds_toArray, List.set_cons_zero, List.set_cons_succ]
      refine kit6.take_y (i := 19) (v := ?_) rfl (by kernel_rfl) (by kernel_rfl) (by kernel_rfl) (fun _ _ _ h => h) (by rfl) (by assumption) ?_ ?_
      rotate_left
      · intro w hSw
        try dsimp only at hSw
        go_simp
        try with_reducible rfl
      try simp only [Act.put, List.setIfInBounds_toArray, List.set_cons_zero, List.set_cons_succ]
      refine kit6.take_y (i := 20) (v := ?_) rfl (by kernel_rfl) (by kernel_rfl) (by kernel_rfl) (fun _ _ _ h => h) (by rfl) (by assumption) ?_ ?_
      rotate_left
      · intro w hSw
        try dsimp only at hSw
        go_simp
        try with_reducible rfl
      try simp only [Act.put, List.setIfInBounds_toArray, List.set_cons_zero, List.set_cons_succ]
      refine wpAnyH_ready (rs := [22]) (by kernel_rfl) (by simp) ?_
      refine kit6.cons_l (i := 22) rfl (by rfl) (fun K hK => ?_) AllReadyH.nil
      obtain ⟨k0, k1, k2, k3, k4⟩ := blk2 bq
      go_simp
      have hB := (hB.setCell (p := ⟨w.heap.size, 0, none⟩) hqz (.int .i64 r)).setCell (p := ⟨w.heap.size, 1, none⟩) hqz (.int .i64 M.node)
      have bq := hp_set (hp_set bq 0 (.int .i64 r)) 1 (.int .i64 M.node)
      refine hK.out _ _ (HX.out _ hB) (fun hHeld => ?_)
      clear hK K
      try simp only [Act.put, List.setIfInBounds_toArray, List.set_cons_zero, List.set_cons_succ]
      refine kit6.take_y (i := 23) (v := ?_) rfl (by kernel_rfl) (by kernel_rfl) (by kernel_rfl) (fun _ _ _ h => h) (by rfl) (by assumption) ?_ ?_
      rotate_left
      · intro w hSw
        try dsimp only at hSw
        go_simp
        try with_reducible rfl
      try simp only [Act.put, List.setIfInBounds_toArray, List.set_cons_zero, List.set_cons_succ]
      refine wpAnyH_done (by kernel_rfl) ?_ _
      go_wp2_with fail
      go_meet
      case rel => exact ⟨_, rfl, rfl, hB, hqz, bq⟩
  case rest =>
    obtain ⟨qb, rfl, rfl, HQ⟩ := hcut
    obtain ⟨hb1, hqz, hqb⟩ := HQ.out
    have P1 := PeerAt.below HP.out hb1
    have hqo : O qb = ro := HP.out.clean qb hqz
    have hroM : ¬ Mine i ro := fun hh => HP.out.me hh.1.symm
    have HRE := Lib.hid (rest_ok wc O i pb M P1)
    have F1 : Fr (Mine i) w O wc O := Fr.of_below HP.out.clean hb1
    have HF1 := Lib.hid F1
    have HQB := Lib.hid hqb
    have HQO := Lib.hid hqo
    have HRM : Hid (¬ Mine i ro) := hroM
    have hqzz := (blk2 hqb).2.2.2.2
    have HQZ := Lib.hid hqzz
    clear hb1 hqz hqb P1 hqo hroM F1 HQ HX LMO LMP LMQ LNE LPR x0 x2 x3 x4 hqzz
    go_upto_region 7 with (go_at_call 20; refine HRE.out.mono ?_; rintro e w2 ⟨rfl, O2, P2, F2⟩; have HP2 := Lib.hid P2; have HF2 := Lib.hid F2; clear P2 F2)
    have hqb2 := HF2.out.hp HQB.out (by rw [HQO.out]; exact HRM.out)
    have hqo2 : O2 qb = ro := by rw [HF2.out.own qb HQZ.out]; exact HQO.out
    obtain ⟨q0, q1, -, -, qz⟩ := blk2 hqb2
    have x10 : w2.cell? ⟨pb, 10, none⟩ = some (.int .i64 0) := (kit.blk HP2.out.blk).1 10
    have x11 : w2.cell? ⟨pb, 11, none⟩ = some (.int .i64 0) := (kit.blk HP2.out.blk).1 11
    have x3 : w2.cell? ⟨pb, 3, none⟩ = some (.int .i64 M.s1) := (kit.blk HP2.out.blk).1 3
    have x4 : w2.cell? ⟨pb, 4, none⟩ = some (.int .i64 M.s2) := (kit.blk HP2.out.blk).1 4
    have f10 : w2.frozen? ⟨pb, 10, none⟩ = false := (kit.blk HP2.out.blk).2.1 10
    have f11 : w2.frozen? ⟨pb, 11, none⟩ = false := (kit.blk HP2.out.blk).2.1 11
    have f3 : w2.frozen? ⟨pb, 3, none⟩ = false := (kit.blk HP2.out.blk).2.1 3
    have f4 : w2.frozen? ⟨pb, 4, none⟩ = false := (kit.blk HP2.out.blk).2.1 4
    have hpz2 := (kit.blk HP2.out.blk).2.2
    have HQ2 := Lib.hid hqb2
    have HQO2 := Lib.hid hqo2
    clear hqb2 hqo2
    go_region
    obtain ⟨w3, hw3⟩ : ∃ w3 : World, w3 = ((((w2.setCell ⟨pb, 10, none⟩ (.int .i64 r)).setCell ⟨pb, 11, none⟩ (.int .i64 M.node)).setCell ⟨pb, 3, none⟩ (.int .i64 r)).setCell ⟨pb, 4, none⟩ (.int .i64 M.node)).drew := ⟨_, rfl⟩
    rw [← hw3]
    obtain ⟨A1, B1, C1⟩ := peer_set (k := 10) (v := .int .i64 r) (M' := { PM.rest M with o1 := r }) HP2.out (by kernel_rfl) rfl rfl rfl rfl (fun j => rfl) (fun j => rfl)
    obtain ⟨A2, B2, C2⟩ := peer_set (k := 11) (v := .int .i64 M.node) (M' := { PM.rest M with o1 := r, o2 := M.node }) B1 (by kernel_rfl) rfl rfl rfl rfl (fun j => rfl) (fun j => rfl)
    obtain ⟨A3, B3, C3⟩ := peer_set (k := 3) (v := .int .i64 r) (M' := { PM.rest M with o1 := r, o2 := M.node, s1 := r }) B2 (by kernel_rfl) rfl rfl rfl rfl (fun j => rfl) (fun j => rfl)
    obtain ⟨O3, B4, C4⟩ := peer_set (k := 4) (v := .int .i64 M.node) (M' := { PM.rest M with o1 := r, o2 := M.node, s1 := r, s2 := M.node }) B3 (by kernel_rfl) rfl rfl rfl rfl (fun j => rfl) (fun j => rfl)
    obtain ⟨wa, hwa⟩ : ∃ wa : World, wa = ((((w2.setCell ⟨pb, 10, none⟩ (.int .i64 r)).setCell ⟨pb, 11, none⟩ (.int .i64 M.node)).setCell ⟨pb, 3, none⟩ (.int .i64 r)).setCell ⟨pb, 4, none⟩ (.int .i64 M.node)) := ⟨_, rfl⟩
    rw [← hwa] at B4 C4 hw3
    have hbd : Below wa.heap.size wa w3 := by rw [hw3]; exact below_drewN (Below.refl _ wa) 1
    have P3 := PeerAt.below B4 hbd
    have F3 : Fr (Sf i 1) w2 O2 w3 O3 := (C1.trans (C2.trans (C3.trans C4))).trans (Fr.of_below B4.clean hbd)
    obtain ⟨M3, hM3⟩ : ∃ M3 : PM, M3 = { PM.rest M with o1 := r, o2 := M.node, s1 := r, s2 := M.node } := ⟨_, rfl⟩
    rw [← hM3] at P3
    have hqb3 := F3.hp HQ2.out (by rw [HQO2.out]; exact sf_ro P3.me)
    have hqo3 : O3 qb = ro := by rw [F3.own qb (blk2 HQ2.out).2.2.2.2]; exact HQO2.out
    have x2 : w3.cell? ⟨pb, 2, none⟩ = some (.pointer (some ⟨M.ab, 0, none⟩)) := by
      have := (kit.blk P3.blk).1 2
      rw [this, hM3]; rfl
    have hA3 : AccIs w3.drew 0 M.ab M.mb M.A := by
      have h1 := ((PeerAt.below P3 (below_drewN (Below.refl _ w3) 1)).parts.acc (fun x => x)).1
      rw [hM3] at h1; exact h1
    have HPE := Lib.hid (acch.prepare_ok w3.drew 0 M.ab M.mb M.A r M.node 1 hA3)
    have HP3 := Lib.hid P3
    have HF3 := Lib.hid F3
    have HM3 := Lib.hid hM3
    have HQ3 := Lib.hid hqb3
    have HQO3 := Lib.hid hqo3
    obtain ⟨q0, q1, -, -, qz⟩ := blk2 hqb3
    have hpz3 := (kit.blk P3.blk).2.2
    clear hw3 hwa B1 B2 B3 B4 C1 C2 C3 C4 hbd P3 F3 hM3 hqb3 hqo3 hA3 x10 x11 x3 x4 f10 f11 f3 f4 hpz2
    go_upto_region 8 with fail
    go_still_tail 6, (by kernel_rfl)
    change wpList _ _ _ _ _ w3.drew
    go_upto_region 9 with (go_at_call 21; refine HPE.out.mono ?_; rintro e w4 ⟨v4, rfl, -, hA4, hk4⟩; have HA4 := Lib.hid (And.intro hA4 hk4); clear hA4 hk4)
    obtain ⟨M4, hM4⟩ : ∃ M4 : PM, M4 = { M3 with A := acch.prepS M.A r M.node } := ⟨_, rfl⟩
    have hbd3 : Below w3.heap.size w3 w3.drew := below_drewN (Below.refl _ w3) 1
    obtain ⟨O4, P4, F4⟩ := peer_acc (A' := acch.prepS M.A r M.node) (PeerAt.below HP3.out hbd3) (by rw [HM3.out]; exact HA4.out.1) (by rw [HM3.out]; exact HA4.out.2)
    rw [← hM4] at P4
    have F34 := (Fr.of_below (S := Sf i 2) HP3.out.clean hbd3).trans F4
    have hqb4 := F34.hp HQ3.out (by rw [HQO3.out]; exact sf_ro P4.me)
    have hqo4 : O4 qb = ro := by rw [F34.own qb (blk2 HQ3.out).2.2.2.2]; exact HQO3.out
    obtain ⟨q0, q1, -, -, qz⟩ := blk2 hqb4
    have HNO := Lib.hid (note_ok w4 O4 i pb M4 ⟨1, r, M.node, ⟨0, 0, 0, [], none, 0⟩, ⟨0, [], none, 0⟩⟩ P4 ⟨rob_nil w4, rob_nil w4⟩ (by rw [hM4, HM3.out]; show M.nt.l.length ≤ _; have := HNT.out; omega))
    simp only [nval] at HNO
    have HP4 := Lib.hid P4
    have HF4 := Lib.hid F34
    have HM4 := Lib.hid hM4
    have HQ4 := Lib.hid hqb4
    have HQO4 := Lib.hid hqo4
    clear hM4 P4 F4 F34 hqb4 hqo4 hbd3 x2 hpz3 HPE HA4
    go_upto_region 10 with (go_at_call 22; refine HNO.out.mono ?_; rintro e5 w5 ⟨rfl, c5, a5, O5, P5, F5⟩; have HP5 := Lib.hid P5; have HF5 := Lib.hid F5; clear P5 F5)
    obtain ⟨M5, hM5⟩ : ∃ M5 : PM, M5 = { M4 with nt := ⟨a5, c5, M4.nt.l ++ [⟨1, r, M.node, ⟨0, 0, 0, [], none, 0⟩, ⟨0, [], none, 0⟩⟩]⟩ } := ⟨_, rfl⟩
    have P5 := HP5.out
    rw [← hM5] at P5
    have hqb5 := HF5.out.hp HQ4.out (by rw [HQO4.out]; exact sf_ro P5.me)
    have hqo5 : O5 qb = ro := by rw [HF5.out.own qb (blk2 HQ4.out).2.2.2.2]; exact HQO4.out
    obtain ⟨C, hC⟩ : ∃ C : Int, C = M.index + (M.en.l.length : Int) := ⟨_, rfl⟩
    have h5 : M5.index = M.index ∧ M5.en = M.en ∧ M5.lt = M.lt ∧ M5.nodes = M.nodes ∧ M5.node = M.node ∧ (∀ j, M5.pr j = ⟨false, 0, 0, sl0⟩) := by rw [hM5, HM4.out, HM3.out]; exact ⟨rfl, rfl, rfl, rfl, rfl, fun j => rfl⟩
    have HCO := Lib.hid (commit_ok w5 O5 i pb M5 P5 (by rw [h5.1]; exact HCI.out) (by rw [h5.2.1]; have := HCE.out; omega))
    rw [h5.1, h5.2.1, ← hC] at HCO
    have hw1 : IntKind.i64.wrap (C + 1) = C + 1 := IntWalk.i64_in _ (by have h1 := HCI.out; have h2 := HCE.out; omega)
    have HC := Lib.hid hC
    have H5 := Lib.hid h5
    have HP6 := Lib.hid P5
    have HM5 := Lib.hid hM5
    have HQ5 := Lib.hid hqb5
    have HQO5 := Lib.hid hqo5
    clear P5 hqb5 hqo5 hC h5 hM5 q0 q1 HNO HP5
    go_wp2_with (go_at_call 12; refine HCO.out.mono ?_; rintro e6 w6 ⟨rfl, hb6⟩; have HB6 := Lib.hid hb6; clear hb6)
    go_loopw [58] (fun t wr => ∃ k : Nat, k ≤ 6 ∧ t = .int .i64 k ∧ Hid (Behind w6 O5 i pb (Sf i 1) wr { M5 with pr := fun j => if j < k then ⟨false, C + 1, 0, sl0⟩ else ⟨false, 0, 0, sl0⟩ })) (fun t _ => 6 - (RowKit.intOf t).toNat)
    case atStart =>
      refine ⟨0, Nat.zero_le _, rfl, ?_⟩
      have e : ({ M5 with pr := fun j => if j < 0 then ⟨false, C + 1, 0, sl0⟩ else ⟨false, 0, 0, sl0⟩ } : PM) = M5 := by
        have : (fun j => if j < 0 then (⟨false, C + 1, 0, sl0⟩ : PmM) else ⟨false, 0, 0, sl0⟩) = M5.pr := funext fun j => by rw [if_neg (Nat.not_lt_zero j)]; exact (H5.out.2.2.2.2.2 j).symm
        rw [this]
      rw [e]
      exact ⟨O5, PeerAt.below HP6.out HB6.out, Fr.refl _ (PeerAt.below HP6.out HB6.out).clean⟩
    case round =>
      obtain ⟨k, hk, rfl, HR⟩ := hrel
      obtain ⟨O7, P7, F7⟩ := HR.out
      by_cases hlt : k < 6
      · have hki : (k : Int) < 6 := by omega
        have hki0 : (0 : Int) ≤ (k : Int) := by omega
        have hw9 : IntKind.i64.wrap ((k : Int) + 1) = (k : Int) + 1 := IntWalk.i64_in _ (by omega)
        have hst := prom_fr (C + 1) P7 hlt
        have xk : wr.cell? ⟨pb, 13 + k * 4 + 1, none⟩ = some (.int .i64 0) := by
          rw [(kit.blk P7.blk).1 (13 + k * 4 + 1)]
          rcases (by omega : k = 0 ∨ k = 1 ∨ k = 2 ∨ k = 3 ∨ k = 4 ∨ k = 5) with e | e | e | e | e | e
          all_goals
            subst e; rfl
        have fk : wr.frozen? ⟨pb, 13 + k * 4 + 1, none⟩ = false := (kit.blk P7.blk).2.1 _
        have hpz7 := (kit.blk P7.blk).2.2
        have HST := Lib.hid hst
        have HF7 := Lib.hid F7
        clear P7 F7 hst
        go_wp2_with fail
        go_roundw
        case rel =>
          obtain ⟨O8, P8, F8⟩ := HST.out
          exact ⟨k + 1, by omega, by go_num, O8, P8, HF7.out.trans F8⟩
        case measure => simp [RowKit.intOf]; omega
      · obtain rfl : k = 6 := by omega
        have x0 : wr.cell? ⟨pb, 0, none⟩ = some (.int .i64 M5.node) := (kit.blk P7.blk).1 0
        rw [H5.out.2.2.2.2.1, HND.out] at x0
        have hnd0 : (0 : Int) ≤ (nd : Int) := by omega
        have hnd6 : (nd : Int) < 6 := by omega
        have xd : wr.cell? ⟨pb, 13 + nd * 4, none⟩ = some (.bool false) := by
          rw [(kit.blk P7.blk).1 (13 + nd * 4)]
          rcases (by omega : nd = 0 ∨ nd = 1 ∨ nd = 2 ∨ nd = 3 ∨ nd = 4 ∨ nd = 5) with e | e | e | e | e | e
          all_goals
            subst e; rfl
        have fd : wr.frozen? ⟨pb, 13 + nd * 4, none⟩ = false := (kit.blk P7.blk).2.1 _
        have hpz7 := (kit.blk P7.blk).2.2
        have HP7 := Lib.hid P7
        have HF7 := Lib.hid F7
        clear P7 F7
        go_upto_region 16 with fail
        go_region
        obtain ⟨wa, hwa⟩ : ∃ wa : World, wa = wr.setCell ⟨pb, 13 + nd * 4, none⟩ (.bool true) := ⟨_, rfl⟩
        obtain ⟨w8, hw8⟩ : ∃ w8 : World, w8 = wa.drew := ⟨_, rfl⟩
        rw [← hwa, ← hw8]
        obtain ⟨O8, P8a, F8⟩ := prom_done (C + 1) HP7.out (by omega : nd < 6)
        rw [← hwa] at P8a F8
        have hbd8 : Below wa.heap.size wa w8 := by rw [hw8]; exact below_drewN (Below.refl _ wa) 1
        have P8 := PeerAt.below P8a hbd8
        obtain ⟨M8, hM8⟩ : ∃ M8 : PM, M8 = { M5 with pr := fun j => ⟨decide (j = nd), C + 1, 0, sl0⟩ } := ⟨_, rfl⟩
        rw [← hM8] at P8
        have F58 : Fr (Sf i 1) w5 O5 w8 O8 := (Fr.of_below HP6.out.clean HB6.out).trans (HF7.out.trans (F8.trans (Fr.of_below P8a.clean hbd8)))
        have hqb8 := F58.hp HQ5.out (by rw [HQO5.out]; exact sf_ro P8.me)
        obtain ⟨q0, q1, -, -, qz⟩ := blk2 hqb8
        have HOT := Lib.hid (others_ok w8 O8 i pb M8 ⟨1, 0, 0, r, M.node, C + 1, 0, sl0, sl0, 0, 0, 0, sl0⟩ P8 (rol_nil _ _ _ _ _ _ _ _ _) (by rw [hM8]; show 0 ≤ M5.nodes ∧ M5.nodes ≤ 5; rw [H5.out.2.2.2.1]; exact HCM.out.nod) (by rw [hM8]; show M5.lt.l.length ≤ _; rw [H5.out.2.2.1]; exact HLT.out))
        simp only [lval, sl0, List.length_nil] at HOT
        have F08 : Fr (Mine i) w O w8 O8 := HF1.out.trans (HF2.out.trans ((HF3.out.mono sf_mine).trans ((HF4.out.mono sf_mine).trans ((HF5.out.mono sf_mine).trans (F58.mono sf_mine)))))
        have HF8 := Lib.hid F08
        have HM8 := Lib.hid hM8
        clear hwa hw8 P8a F8 hbd8 P8 hM8 F58 hqb8 F08 x0 xd fd hpz7
        have HEL : Hid (∀ w9 (a9 : Option Addr) (c9 : Nat), Behind w8 O8 i pb (Mine i) w9 { M8 with lt := ⟨a9, c9, M8.lt.l ++ othL M8 ⟨1, 0, 0, r, M.node, C + 1, 0, sl0, sl0, 0, 0, 0, sl0⟩ M8.nodes.toNat⟩ } → Calls Tryz.prog 24 #[.pointer (some ⟨pb, 0, none⟩)] w9 fun e w' => e = .returned (.tuple #[]) ∧ ∃ M', M'.dat = M.dat.draw ∧ Behind w O i pb (Mine i) w' M') := by
          rintro w9 a9 c9 ⟨O9, P9, F9⟩
          have hd : PM.dat { M8 with lt := ⟨a9, c9, M8.lt.l ++ othL M8 ⟨1, 0, 0, r, M.node, C + 1, 0, sl0, sl0, 0, 0, 0, sl0⟩ M8.nodes.toNat⟩ } = M.dat.cand0.others { lt0 with kind := 1, b := M.dat.nextBal, slot := M.dat.commit + 1 } := by
            rw [others_dat]
            have hcom : M.dat.commit = C := by rw [HC.out]; show M.index + ((M.en.l.map le).length : Int) = _; rw [List.length_map]
            have hb : M.dat.nextBal = (r, M.node) := by rw [HR0.out]; rfl
            have e1 : M8.dat = M.dat.cand0 := by
              rw [HM8.out, HM5.out, HM4.out, HM3.out]
              unfold PD.cand0 PD.note
              rw [hb, hcom]
              simp only [PM.dat, PM.rest, List.map_append, List.map_singleton, PD.rest]
              congr 1
              funext j
              simp only [PmM.dat, sl0, List.map_nil]
              congr 1
              have hn := HND.out
              exact decide_eq_decide.2 ⟨fun h => by rw [h]; exact hn.symm, fun h => by have h2 : (j : Int) = M.node := h; omega⟩
            rw [e1, hb, hcom]
            rfl
          obtain ⟨k1, k2, k3⟩ := cand_ok HCM.out { lt0 with kind := 1, b := M.dat.nextBal, slot := M.dat.commit + 1 }
          rw [← hd] at k1 k2 k3
          have hsp : peel.SlP { M8 with lt := ⟨a9, c9, M8.lt.l ++ othL M8 ⟨1, 0, 0, r, M.node, C + 1, 0, sl0, sl0, 0, 0, 0, sl0⟩ M8.nodes.toNat⟩ } := by
            intro j hj
            have e1 : M8.pr j = ⟨decide (j = nd), C + 1, 0, sl0⟩ := by rw [HM8.out]
            show (M8.pr j).vs.l.length ≤ _ ∧ ∀ v ∈ (M8.pr j).vs.l, _
            rw [e1]
            exact ⟨by simp [sl0], by simp [sl0]⟩
          refine (peel.elect_ok w9 O9 i pb _ P9 k1 k2 k3 hsp).mono ?_
          rintro e w' ⟨rfl, M', h1, O', h2, h3⟩
          exact ⟨rfl, M', by rw [h1, hd, ← draw_eq], O', h2, HF8.out.trans (F9.trans h3)⟩
        simp only [sl0] at HEL
        go_wp2_with (first | (go_at_call 23; refine HOT.out.mono ?_; rintro e9 w9 ⟨rfl, a9, c9, hB9⟩; have HB9 := Lib.hid hB9; clear hB9) | (go_at_call 24; refine (HEL.out w9 a9 c9 HB9.out).mono ?_; rintro e10 w10 ⟨rfl, hfin⟩; have HFI := Lib.hid hfin; clear hfin))
        exact bodyPost_ret (v := .int .i64 0) (by simp [results, Tryz.results8, go_sem]) rfl ⟨rfl, HFI.out⟩
end Go.Proofs.YtcaakiaenfkeaaaGreat.pedr
