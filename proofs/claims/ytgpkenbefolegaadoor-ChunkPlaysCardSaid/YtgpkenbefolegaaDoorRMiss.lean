/-
  The document's box: Missing, Done.
-/
import Derived.Test.YtgpkenbefolegaaDoorRBox
namespace Go.Proofs.YtgpkenbefolegaaDoor.box
open Go.ChangeShapes Go.WideShapes Go.ChangeAt Go.RowKit
open Go.Maps
open Go.Proofs.YtgpkenbefolegaaDoor.kit Go.Proofs.YtgpkenbefolegaaDoor.mapkit Go.Proofs.YtgpkenbefolegaaDoor.byt Go.Proofs.YtgpkenbefolegaaDoor.sum Go.Proofs.YtgpkenbefolegaaDoor.cut
set_option linter.unusedVariables false
set_option linter.unusedSimpArgs false
set_option maxHeartbeats 4000000
set_option maxRecDepth 100000

theorem rmiss_ok (w : World) (base br : Nat) (V : BoxV) (N : Nat → Prop) (h : RefOff w base br V N) (hwf : WF V) :
    Calls Tryd.prog 26 #[.pointer (some ⟨br, 0, none⟩)] w (MissIs (missV V) w) := by
  obtain ⟨hlob, a, c, L, hblk, hrow, hdat, hrel, hrn⟩ := h
  have hL16 := hrel.le
  have hpos := hwf.pos
  have hle := hwf.le
  obtain ⟨t, hT⟩ : ∃ t : Nat, V.tot = (t : Int) := ⟨V.tot.toNat, by omega⟩
  have htn : V.tot.toNat = t := by omega
  have ht16 : t ≤ 16 := by omega
  obtain ⟨b0, -, hzb⟩ := blk1 hblk
  by_cases h0 : L = []
  · subst h0
    have hc0 : V.cnt = 0 := by rw [← hrel.len]; rfl
    have hmv : missV V = [0] := by unfold missV; rw [if_pos hc0]
    rw [hmv]
    have hN : IntsAt (w.alloc (.cells #[.int .i64 0] 3)) w.heap.size (.slice (some ⟨w.heap.size, 0, none⟩) 1 1) [0] :=
      ⟨by simp [icells], .inr ⟨w.heap.size, 1, #[.int .i64 0], rfl, Nat.le_refl _, hp_alloc_new _ _, by simp, by simp [maxLen], by simp, rfl⟩⟩
    have HN := Lib.hid hN
    clear hN hmv hc0 hT htn hrow hdat hrel hblk
    go_enter Tryd.func26, Tryd.ntmps26
    go_wp2_with fail
    go_ret
    exact ⟨_, rfl, HN.out, below_new1 _ _⟩
  · have hc0 : ¬ V.cnt = 0 := by rw [← hrel.len]; exact fun e => h0 (List.length_eq_zero_iff.1 e)
    have hmv : missV V = missN V t := by unfold missV; rw [if_neg hc0, htn]; rfl
    rw [hmv]
    have hl0 : 0 < L.length := List.length_pos_iff.2 h0
    obtain ⟨g, rfl⟩ := own.own_ptr hrow hl0
    obtain ⟨-, x1, -, -⟩ := pc_cells hrow hl0
    rw [(hrel.all _ (List.getElem_mem hl0)).1, hT] at x1
    have hgz := (own_lt hrow).2
    obtain ⟨j0, hj, hy0, hy1, hy2⟩ := info_parts infoInt
    have HH := Lib.hid (fun (wr : World) (hb : Below w.heap.size w wr) (k : Int) => has_ok wr base br c _ L k (hp_step hblk hb) (own_below hrow hb) (by omega))
    have HG := Lib.hid (fun k (hk : k < 16) => hasI_get hrel hk)
    have hli : (0 : Int) < (L.length : Int) := by omega
    have hlz : ((L.length : Int) == 0) = false := by simp; omega
    have X1 := Lib.hid x1
    have B0 := Lib.hid b0
    clear hmv hc0 hT htn hrow hdat hrel hblk h0
    simp only [Nat.zero_mul, Nat.zero_add] at X1
    clear x1
    go_enter Tryd.func26, Tryd.ntmps26
    go_wp2_with fail
    clear b0
    go_loopw [3, 4] (fun v i wr => ∃ (k : Nat), k ≤ t ∧ i = .int .i64 k ∧ Hid (IntsAt wr w.heap.size v (missN V k)) ∧ Hid (Below w.heap.size w wr)) (fun v i _ => t - (intOf i).toNat)
    case atStart => exact ⟨0, Nat.zero_le _, rfl, World.ownsRow_nil _ _ _ _, (Below.refl _ _ : Below w.heap.size w w)⟩
    case round =>
      obtain ⟨k, hk, rfl, HO, HB⟩ := hrel
      obtain ⟨al, cl, rfl, -⟩ := own_shape HO.out
      have b0 := cell_step B0.out HB.out
      have x1 := cell_step X1.out HB.out
      have hbs := HB.out.size
      by_cases hlt : k < t
      · have HC := Lib.hid (HH.out wr HB.out k)
        have hml := miss_len V k
        obtain ⟨y, hy⟩ : ∃ y, y = missN V k := ⟨_, rfl⟩
        have hys : missN V (k + 1) = y ++ if (V.get k).isSome then [] else [k] := by rw [miss_succ, hy]
        have HYS := Lib.hid hys
        rw [← hy] at HO hml ⊢
        clear hy hys
        rcases HG.out k (by omega) with ⟨hg, hh⟩ | ⟨k', hk', hh, hg⟩
        · rw [hh] at HC
          have HY2 : Hid (missN V (k + 1) = y ++ [k]) := by rw [Hid, HYS.out, hg]; rfl
          clear hg hh
          go_wp2_with fail
          refine HC.out.mono ?_; rintro e w2 ⟨rfl, rfl⟩
          go_wp2_with (at_builtin; refine wpl_append rfl (.tmp 27) (.tmp 29) 43 rfl w.heap.size 3 j0 _ 1 8 Tryd.underlying43 hj hy0 hy1 hy2 rfl (by decide) (.slice al y.length cl) y.length (icells y) rfl (HO.out.alloc _) (some ⟨wr.heap.size, 0, none⟩) 1 1 (icells [k]) rfl (by simp) rfl ?hL (icells_one _) (by unfold maxLen; omega) (by omega) ?hB ?_)
          case hL => exact .inr ⟨_, 0, rfl, by rw [size_new]; omega, fun i hi => by rw [Nat.zero_add, (blk (hp_alloc_new _ _)).1]; match i, hi with | 0, _ => rfl⟩
          case hB => rw [size_new]; omega
          intro v' w' hown' hgr
          have HO2 : Hid (IntsAt w' w.heap.size v' (missN V (k + 1))) := by
            rw [HY2.out]
            unfold IntsAt
            rw [List.length_append, icells_append]
            exact hown'
          have HB2 := Lib.hid ((HB.out.alloc hbs _).grown hgr (by rw [size_new]; omega) (fun j hj => (HO.out.lt j hj).1))
          clear hown' hgr
          go_wp2_with fail
          go_roundw
          case rel => exact ⟨k + 1, by omega, by go_num, HO2, HB2⟩
          case measure => simp [intOf]; omega
        · rw [hh] at HC
          have HY2 : Hid (missN V (k + 1) = y) := by rw [Hid, HYS.out, hg]; simp
          have tk : decide ((k' : Int) < 0) = false := decide_eq_false (by omega)
          clear hg hh
          go_wp2_with fail
          refine HC.out.mono ?_; rintro e w2 ⟨rfl, rfl⟩
          go_wp2_with fail
          go_roundw
          case rel => exact ⟨k + 1, by omega, by go_num, by rw [HY2.out]; exact HO, HB⟩
          case measure => simp [intOf]; omega
      · obtain rfl : t = k := by omega
        go_wp2_with fail
        go_ret
        exact ⟨_, rfl, HO.out, HB.out⟩

theorem rdone_ok (w : World) (base br : Nat) (V : BoxV) (N : Nat → Prop) (h : RefOff w base br V N) (hwf : WF V) :
    Calls Tryd.prog 25 #[.pointer (some ⟨br, 0, none⟩)] w (DoneIs V w) := by
  have HMI := Lib.hid (rmiss_ok w base br V N h hwf)
  obtain ⟨hlob, a, c, L, hblk, hrow, hdat, hrel, hrn⟩ := h
  have hL16 := hrel.le
  have hpos := hwf.pos
  have hle := hwf.le
  have HDM := Lib.hid (done_miss hwf)
  obtain ⟨t, hT⟩ : ∃ t : Nat, V.tot = (t : Int) := ⟨V.tot.toNat, by omega⟩
  have htn : V.tot.toNat = t := by omega
  have ht16 : t ≤ 16 := by omega
  by_cases hm : missV V = []
  case neg =>
    have hn : doneV V = none := by rw [HDM.out, if_neg hm]
    have HN := Lib.hid hn
    have hlp : 0 < (missV V).length := List.length_pos_iff.2 hm
    obtain ⟨ml, hml⟩ : ∃ n, n = (missV V).length := ⟨_, rfl⟩
    rw [← hml] at hlp
    have HML := Lib.hid hml
    have hlt : decide ((0 : Int) < (ml : Int)) = true := decide_eq_true (by omega)
    clear hn hm hml hblk hrow hdat hrel hT htn
    go_enter Tryd.func25, Tryd.ntmps25
    go_wp2_with fail
    refine HMI.out.mono ?_; rintro e w1 ⟨v1, rfl, ho1, hb1⟩
    obtain ⟨a1, c1, rfl, -⟩ := own_shape ho1
    rw [← HML.out]
    have HB1 := Lib.hid hb1
    clear ho1 hb1
    go_wp2_with fail
    exact bodyPost_ret (v := .tuple #[.slice none 0 0, .bool false]) (by simp [results, Tryd.results25, go_sem]) rfl (done_none HN.out HB1.out)
  have hdv : doneV V = if sumL (joinN V t) = V.sum then some (joinN V t) else none := by rw [HDM.out, if_pos hm, htn]
  have HDV := Lib.hid hdv
  have hc0 : ¬ V.cnt = 0 := by
    intro e
    unfold missV at hm
    rw [if_pos e] at hm
    simp at hm
  have hl0 : 0 < L.length := by rw [hrel.len]; omega
  have hfull : ∀ k, k < t → V.get k ≠ none := by
    intro k hk e
    unfold missV at hm
    rw [if_neg hc0, htn, List.filter_eq_nil_iff] at hm
    exact hm k (List.mem_range.2 hk) (by rw [e]; rfl)
  rw [hm] at HMI
  obtain ⟨g, rfl⟩ := own.own_ptr hrow hl0
  obtain ⟨-, x1, x2, -⟩ := pc_cells hrow hl0
  obtain ⟨g1, g2, -⟩ := hrel.all _ (List.getElem_mem hl0)
  rw [g1, hT] at x1
  rw [g2] at x2
  simp only [Nat.zero_mul, Nat.zero_add] at x1 x2
  have hgz := (own_lt hrow).2
  obtain ⟨b0, -, hzb⟩ := blk1 hblk
  obtain ⟨j0, hj, hy0, hy1, hy2⟩ := info_parts infoByte
  have HH := Lib.hid (fun (wr : World) (hb : Below w.heap.size w wr) (k : Int) => has_ok wr base br c _ L k (hp_step hblk hb) (own_below hrow hb) (by omega))
  have HG : Hid (∀ k, k < t → ∃ k', ∃ hk' : k' < L.length, hasI L (k : Int) = (k' : Int) ∧ V.get k = some (L[k']).data ∧ w.cell? ⟨g, k' * 4 + 3, none⟩ = some (.slice L[k'].addr L[k'].data.length L[k'].cap) ∧ DataAt w base L[k']) := by
    intro k hk
    rcases hasI_get hrel (show k < 16 by omega) with ⟨h1, -⟩ | ⟨k', hk', h1, h2⟩
    · exact absurd h1 (hfull k hk)
    · exact ⟨k', hk', h1, h2, (pc_cells hrow hk').2.2.2, (hdat _ (List.getElem_mem hk')).1⟩
  have hlens : Hid (∀ k, (joinN V k).length ≤ 512 * k) := fun k => join_len hwf k
  have hbyt : Hid (Byt (joinN V t)) := join_byt hwf t
  have hli : (0 : Int) < (L.length : Int) := by omega
  have X1 := Lib.hid x1
  have X2 := Lib.hid x2
  have B0 := Lib.hid b0
  clear hdv hm hblk hrow hdat hrel hT htn hfull hc0 x1 x2 b0 g1 g2
  go_enter Tryd.func25, Tryd.ntmps25
  go_wp2_with fail
  refine HMI.out.mono ?_; rintro e w1 ⟨v1, rfl, ho1, hb1⟩
  obtain ⟨a1, c1, rfl, -⟩ := own_shape ho1
  have HB1 := Lib.hid hb1
  clear ho1 hb1 HMI
  simp only [List.length_nil]
  go_wp2_with fail
  go_loopw [4, 5] (fun v i wr => ∃ (k : Nat), k ≤ t ∧ i = .int .i64 k ∧ Hid (wr.ownsRow w.heap.size 5 1 v (joinN V k).length (bcells (joinN V k))) ∧ Hid (Below w.heap.size w wr)) (fun v i _ => t - (intOf i).toNat)
  case atStart => exact ⟨0, Nat.zero_le _, rfl, World.ownsRow_nil _ _ _ _, HB1⟩
  case round =>
    obtain ⟨k, hk, rfl, HO, HB⟩ := hrel
    obtain ⟨al, cl, rfl, -⟩ := own_shape HO.out
    have b0 := cell_step B0.out HB.out
    have x1 := cell_step X1.out HB.out
    have hbs := HB.out.size
    by_cases hlt : k < t
    · obtain ⟨k', hk', hh, hg, x3, hxd⟩ := HG.out k hlt
      have hbd : Below wr.heap.size wr wr.drew := below_drewN (Below.refl _ wr) 1
      have HC := Lib.hid (HH.out wr.drew (below_step HB.out hbd) k)
      rw [hh] at HC
      have hl1 := hlens.out k
      have hl2 := hlens.out (k + 1)
      rw [join_succ, List.length_append, hg] at hl2
      have hJ : joinN V (k + 1) = joinN V k ++ (L[k']).data := by rw [join_succ, hg]; rfl
      have x3' := cell_step x3 HB.out
      have hki : (k' : Int) < (L.length : Int) := by omega
      obtain ⟨x, hx⟩ : ∃ x, x = L[k'] := ⟨_, rfl⟩
      rw [← hx] at x3' hxd hJ hl2
      simp only [Option.getD_some] at hl2
      obtain ⟨y, hy⟩ : ∃ y, y = joinN V k := ⟨_, rfl⟩
      rw [← hy] at HO hl1 hl2 hJ ⊢
      obtain ⟨ao9, cap9, e9, hnil9, hlie9, -⟩ := owned_lie hxd
      simp only [Value.slice.injEq, true_and] at e9
      obtain ⟨rfl, rfl⟩ := e9
      have HNIL := Lib.hid hnil9
      have HLIE := Lib.hid ((hlie9.below HB.out).below hbd)
      have HJ := Lib.hid hJ
      have HO2 := Lib.hid (own_below HO.out hbd)
      have HBD := Lib.hid (below_step HB.out hbd)
      have hbs2 : w.heap.size ≤ wr.drew.heap.size := HBD.out.size
      have b0' := cell_step b0 hbd
      have x3'' := cell_step x3' hbd
      clear hh hg x3 hxd hx hy hJ hnil9 hlie9 hbd
      go_wp2_with fail
      go_region_held3 (fun w' => w'.cell? ⟨br, 0, none⟩ = some (.slice (some ⟨g, 0, none⟩) L.length c) ∧ w'.cell? ⟨g, k' * 4 + 3, none⟩ = some (.slice x.addr x.data.length x.cap)) (first | (exact ⟨b0', x3''⟩) | (exact ⟨z0, z1⟩) | assumption) (first | (go_at_call 34; refine HC.out.mono ?_; rintro e wn ⟨rfl, rfl⟩) | (refine kit.step_append rfl (.tmp 21) (.tmp 31) 22 rfl w.heap.size 5 j0 _ 1 1 Tryd.underlying22 hj hy0 hy1 hy2 rfl (by decide) (.slice al y.length cl) y.length (bcells y) (by simp [Act.eval, Act.put]) HO2.out x.addr x.data.length x.cap (bcells x.data) (by simp [Act.eval, Act.put]) HNIL.out (by rw [bcells_len]; simp) HLIE.out (bcells_one _) (by unfold maxLen; omega) (by omega) hbs2 ?_; intro v6 w6 hown6 hgr6; have hb6 := HBD.out.grown hgr6 hbs2 (fun j hj => (HO2.out.lt j hj).1); have z0 := cell_step B0.out hb6; have z1 := hgr6.cell x3'' (fun e => by have h9 := (HO2.out.lt g e.symm).1; omega); have HB6 := Lib.hid hb6; have HO6 := Lib.hid hown6; clear hown6 hgr6 hb6))
      go_wp2_with fail
      go_roundw
      case rel => exact ⟨k + 1, by omega, by go_num, by rw [HJ.out, List.length_append, bcells_append]; exact HO6, HB6⟩
      case measure => simp [intOf]; omega
    · obtain rfl : t = k := by omega
      have x2 := cell_step X2.out HB.out
      obtain ⟨ao9, cap9, e9, hnil9, hlie9, -⟩ := owned_lie HO.out
      simp only [Value.slice.injEq, true_and] at e9
      obtain ⟨rfl, rfl⟩ := e9
      have hsum : ∀ n, Calls Tryd.prog 19 #[.slice al (joinN V t).length cl] (wr.drewN n) fun e w' => e = .returned (.int .u32 (sumL (joinN V t))) ∧ w' = wr.drewN n :=
        fun n => (refSum_any _ _ _ _ (by have := hlens.out t; omega) hbyt.out (hlie9.below (below_drewN (Below.refl _ wr) n))).mono fun _ _ h => ⟨h.1, h.2.symm⟩
      obtain ⟨sm, hsm⟩ : ∃ s, s = sumL (joinN V t) := ⟨_, rfl⟩
      rw [← hsm] at hsum
      have hD2 := HDV.out
      rw [← hsm] at hD2
      obtain ⟨jl, hjl⟩ : ∃ n, n = (joinN V t).length := ⟨_, rfl⟩
      rw [← hjl]
      by_cases hss : sm = V.sum
      · rw [if_pos hss] at hD2
        have HR : Hid (∀ w', Below w.heap.size w w' → w'.ownsRow w.heap.size 5 1 (.slice al (joinN V t).length cl) (joinN V t).length (bcells (joinN V t)) → DoneIs V w (.returned (.tuple #[.slice al (joinN V t).length cl, .bool true])) w') := by
          intro w' hb' ho
          refine ⟨.slice al (joinN V t).length cl, ?_, ?_, hb'⟩
          · rw [hD2]; rfl
          · rw [hD2]; exact ho
        subst hss
        rw [← hjl] at hsum HR HO
        clear hD2 hjl hlie9 hnil9
        go_wp2_with fail
        go_quiet (first | (go_at_call 19; exact Calls.quiet_of_same (hsum _)))
        go_wp2_with fail
        exact bodyPost_ret (v := .tuple #[.slice al jl cl, .bool true]) (by simp [results, Tryd.results25, go_sem]) rfl (HR.out _ (below_drewN HB.out _) HO.out)
      · rw [if_neg hss] at hD2
        have HN := Lib.hid hD2
        have hsi : ((sm : Int) != (V.sum : Int)) = true := by simp; omega
        rw [← hjl] at hsum HO
        clear hD2 hjl hlie9 hnil9 hss
        go_wp2_with fail
        go_quiet (first | (go_at_call 19; exact Calls.quiet_of_same (hsum _)))
        go_wp2_with fail
        exact bodyPost_ret (v := .tuple #[.slice none 0 0, .bool false]) (by simp [results, Tryd.results25, go_sem]) rfl (done_none HN.out (below_drewN HB.out _))
end Go.Proofs.YtgpkenbefolegaaDoor.box
