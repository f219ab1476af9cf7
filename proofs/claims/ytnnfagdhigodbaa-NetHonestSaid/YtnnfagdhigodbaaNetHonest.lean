/-
  NetHonest: whatever comes was sent, and comes no more often than it was sent and doubled (printed by wip/mkhonest.py).
-/
import Derived.Test.YtnnfagdhigodbaaNetW
import Derived.Test.YtnnfagdhigodbaaNetJ
import Derived.Test.YtnnfagdhigodbaaChecked
import Derived.Test.YtnnfagdhigodbaaRows
import Derived.Deep.RegionHeld3
namespace Go.Proofs.Ytnnfagdhigodbaa.netHonest
open Go.ChangeShapes Go.WideShapes Go.ChangeAt Go.RowKit Go.Joins
open Go.Proofs.Ytnnfagdhigodbaa.kit Go.Proofs.Ytnnfagdhigodbaa.byt Go.Proofs.Ytnnfagdhigodbaa.netc Go.Proofs.Ytnnfagdhigodbaa.netg Go.Proofs.Ytnnfagdhigodbaa.nets Go.Proofs.Ytnnfagdhigodbaa.nett Go.Proofs.Ytnnfagdhigodbaa.nete Go.Proofs.Ytnnfagdhigodbaa.netq Go.Proofs.Ytnnfagdhigodbaa.netr Go.Proofs.Ytnnfagdhigodbaa.neti Go.Proofs.Ytnnfagdhigodbaa.neto Go.Proofs.Ytnnfagdhigodbaa.neth Go.Proofs.Ytnnfagdhigodbaa.netj
set_option linter.unusedVariables false
set_option linter.unusedSimpArgs false
set_option maxHeartbeats 20000000
set_option maxRecDepth 100000

theorem told_row {w w' : World} {base b : Nat} {m : Int} {qs qs' : List Q} {S : Cuts} {v : Value} (h : NetIs w base b m qs S) (hbw : base ≤ w.heap.size) (hb : Below w.heap.size w w') (hT : neto.Told w w' v qs') : ∃ xs, RowF w' base b v xs ∧ xs.map q = qs' := by
  obtain ⟨a, c, xs, rfl, hq, hown, hbd⟩ := hT.ps
  obtain ⟨ps, h1, _⟩ := h
  refine ⟨xs, ⟨⟨a, c, rfl, own_mono hown hbw⟩, fun g hg hf => ?_, fun p hp => .inl (own_mono (hbd p hp) hbw)⟩, hq⟩
  have e := own_from hown g (own_block hown g hg)
  have := (foot_lt h1 ((foot_same (hb.block b h1.lt) g).1 hf)).1
  omega
theorem blk4 {w : World} {b : Nat} {x y z u : Value} {T : TypeId} (h : w.heap[b]? = some (.cells #[x, y, z, u] T (0, 0))) : w.cell? ⟨b, 0, none⟩ = some x ∧ w.cell? ⟨b, 1, none⟩ = some y ∧ w.cell? ⟨b, 2, none⟩ = some z ∧ w.cell? ⟨b, 3, none⟩ = some u := by
  obtain ⟨h1, h2, h3⟩ := blk h
  exact ⟨h1 0, h1 1, h1 2, h1 3⟩
theorem cnt_mono {A B C : List Q} (h : ∀ x, cntQ A x + cntQ B x ≤ cntQ C x) {B' : List Q} (h' : ∀ x, cntQ B' x ≤ cntQ B x) : ∀ x, cntQ A x + cntQ B' x ≤ cntQ C x := fun x => by have := h x; have := h' x; omega

theorem honest_ok (w : World) (n0 : Int) (a : Option Addr) (l : List OpV) (cap : Nat) (hl : l.length * 48 ≤ 140737488355328) (hat : RowsAt w a 4 (l.map ocells)) (hok : ∀ k (hk : k < l.length), GoodO w (l[k])) :
    Calls Try.prog 6 #[.int .i64 n0, .slice a l.length cap] w fun e w' => e = .returned (.bool true) ∧ Below w.heap.size w w' := by
  obtain ⟨hm1, hm2⟩ := most_in n0
  have hw := most_wrap n0
  obtain ⟨m, hm⟩ : ∃ m, m = most n0 := ⟨_, rfl⟩
  rw [← hm] at hm1 hm2 hw
  have hN := Lib.hid (newq w m hm1 hm2)
  have HR := Lib.hid (fun (wr : World) (hb : Below w.heap.size w wr) k hk => row_op (hat.below hb) k hk)
  have HOK := Lib.hid (fun (wr : World) (hb : Below w.heap.size w wr) k hk => (hok k hk).below hb)
  have HOK0 := Lib.hid hok
  clear hat hok hm hm1 hm2
  obtain ⟨j0, hj, hy0, hy1, hy2⟩ := info_parts infoPkt
  go_enter Try.func6, Try.ntmps6
  go_wp2_with fail
  rw [hw]
  clear hw
  refine hN.out.mono ?_; rintro e w1 ⟨rfl, hL1, hb1⟩
  have HL1 := Lib.hid hL1
  have HB1 := Lib.hid hb1
  clear hL1 hb1 hN
  go_wp2_with fail
  refine (awake_ok w1).mono ?_; rintro e w2 ⟨rfl, hb2⟩
  have HM2 : Hid (Mem w w2 (w.heap.size + 1) m (.slice none 0 0) (.slice none 0 0) [] [] [] []) :=
    ⟨HL1.out.below hb2, RowF.start _ _ _, RowF.start _ _ _, fun g h => by simp [Value.ownBlock] at h, below_step HB1.out hb2⟩
  clear hb2 HL1 HB1
  go_wp2_with fail
  go_loopw [7, 8, 9] (fun s c i wr => ∃ (k : Nat) (qs : List Q) (S : Cuts) (xs ys : List Pkt), k ≤ l.length ∧ i = .int .i64 k ∧ Hid (Mem w wr (w.heap.size + 1) m s c qs S xs ys) ∧ Hid (Fit qs) ∧ Hid (∀ x, cntQ (ys.map q) x + cntQ qs x ≤ cntQ (xs.map q) x) ∧ Hid (xs.length ≤ k ∧ ys.length ≤ k)) (fun _ _ i _ => l.length - (intOf i).toNat)
  case atStart => exact ⟨0, [], [], [], [], Nat.zero_le _, rfl, HM2, Fit.nil, fun x => by simp [cntQ], by show _ ∧ _; simp⟩
  case round =>
    rename_i s c i
    obtain ⟨k, qs, S, xs, ys, hk, rfl, hM, hF, hC, hLen⟩ := hrel
    by_cases hlt : k < l.length
    · obtain ⟨g, off, rfl, hgz, r0, r1, r2, r3⟩ := HR.out wr hM.out.below k hlt
      have HG := Lib.hid (HOK.out wr hM.out.below k hlt)
      have HG0 := Lib.hid (HOK0.out k hlt)
      obtain ⟨o, ho⟩ : ∃ o, o = l[k] := ⟨_, rfl⟩
      rw [← ho] at r0 r1 r2 r3 HG HG0
      clear ho
      have hk9 : k < 3518437208884 := by omega
      by_cases hk1 : o.kind = 1
      · rw [hk1] at r0
        clear hk1
        have HM := Lib.hid (hM.out.old (below_new1 wr (.cells #[.int .i64 1, .int .i64 o.a, .int .i64 o.b, .slice o.ad o.l.length o.c] 42)))
        have HC1 := Lib.hid (deliverm (wr.alloc (.cells #[.int .i64 1, .int .i64 o.a, .int .i64 o.b, .slice o.ad o.l.length o.c] 42)) w.heap.size (w.heap.size + 1) m qs S o.a HM.out.net HM.out.below.size)
        by_cases hin : inQ qs o.a
        · have hE : takeE qs o.a = 0 := by rw [takeE, if_pos hin]
          rw [hE] at HC1
          have HIN := Lib.hid hin
          clear hE hin
          go_wp2_with fail
          refine HC1.out.mono ?_; rintro e w4 ⟨v4, rfl, hcame, hn4, hb4, hm4⟩
          rw [Came, if_pos HIN.out] at hcame
          obtain ⟨p, rfl, hbp, hpq⟩ := hcame
          have HM4 := Lib.hid (HM.out.op hn4 hb4 hm4)
          have HPQ := Lib.hid hpq
          have HBP := Lib.hid hbp
          simp only [Pkt.val]
          have HMP := Lib.hid (HM4.out.old (below_new1 w4 (.cells #[.int .i64 p.f, .int .i64 p.t, .slice p.a p.l.length p.c] 48)))
          have HFP := Lib.hid (Fix.below (.inl HBP.out : Fix w4 w.heap.size p) (below_new1 w4 (.cells #[.int .i64 p.f, .int .i64 p.t, .slice p.a p.l.length p.c] 48)))
          have hszP : w.heap.size ≤ w4.heap.size + 1 := by have := HM4.out.below.size; omega
          clear hn4 hb4 hm4 hpq hbp HC1
          obtain ⟨ac, cc, hc, hoc⟩ := HMP.out.come.row
          subst hc
          have HOWN := Lib.hid hoc
          clear hoc
          go_wp2_with (at_builtin; refine wpl_append_at rfl (.tmp 77) (.tmp 79) 43 rfl w.heap.size 48 j0 _ 3 40 Try.underlying43 hj hy0 hy1 hy2 rfl (by decide) _ ys.length (pkcells ys) rfl ((HOWN.out).alloc _) _ 1 1 [.int .i64 p.f, .int .i64 p.t, .slice p.a p.l.length p.c] rfl rfl (by have h := lie_new3 (w4.alloc (.cells #[.int .i64 p.f, .int .i64 p.t, .slice p.a p.l.length p.c] 48)) (.int .i64 p.f) (.int .i64 p.t) (.slice p.a p.l.length p.c) 48; rw [size_new] at h; exact h) (by simp [Value.oneCell']) (by unfold maxLen; have := hLen.out; omega) (by have := hLen.out; omega) (by rw [size_new]; rw [size_new]; omega) ?_; intro v5 w5 hown hgr hat5; have HM5 := Lib.hid ((HMP.out.swap.push HFP.out hown hgr hat5).swap); clear hown hgr hat5)
          have hcnt : ∀ x, cntQ ((ys ++ [p]).map q) x + cntQ (takeQ qs o.a) x ≤ cntQ (xs.map q) x := by
            intro x
            obtain ⟨y, hy, e⟩ := cnt_take HIN.out x
            have hyp : y = q p := Option.some.inj (hy.symm.trans HPQ.out)
            subst hyp
            rw [List.map_append, List.map_singleton, cntQ_snoc]
            have := hC.out x
            omega
          have HCN := Lib.hid hcnt
          have HF := Lib.hid (hF.out.take o.a)
          clear hcnt
          go_roundw
          case rel => exact ⟨k + 1, _, S, xs, _, by omega, by go_num, HM5, HF, HCN, by have h := hLen.out; exact ⟨by first | omega | (rw [List.length_append, List.length_singleton]; omega), by first | omega | (rw [List.length_append, List.length_singleton]; omega)⟩⟩
          case measure => simp [intOf]; omega
        · have hE : takeE qs o.a = 60 := by rw [takeE, if_neg hin]
          rw [hE] at HC1
          have HIN := Lib.hid hin
          have HQ := Lib.hid (show takeQ qs o.a = qs by rw [takeQ, if_neg hin])
          clear hE hin
          go_wp2_with fail
          refine HC1.out.mono ?_; rintro e w4 ⟨v4, rfl, hcame, hn4, hb4, hm4⟩
          rw [Came, if_neg HIN.out] at hcame
          subst hcame
          have HM4 := Lib.hid ((HM.out.op hn4 hb4 hm4).old (below_new1 w4 (.cells #[.int .i64 0, .int .i64 0, .slice none 0 0] 48)))
          rw [HQ.out] at HM4
          clear hn4 hb4 hm4 HC1
          go_wp2_with fail
          go_roundw
          case rel => exact ⟨k + 1, qs, S, xs, ys, by omega, by go_num, HM4, hF, hC, by have h := hLen.out; exact ⟨by first | omega | (rw [List.length_append, List.length_singleton]; omega), by first | omega | (rw [List.length_append, List.length_singleton]; omega)⟩⟩
          case measure => simp [intOf]; omega
      · by_cases hk2 : o.kind = 2
        · rw [hk2] at r0
          clear hk1 hk2
          have HM := Lib.hid (hM.out.old (below_new1 wr (.cells #[.int .i64 2, .int .i64 o.a, .int .i64 o.b, .slice o.ad o.l.length o.c] 42)))
          have HC1 := Lib.hid (dropm (wr.alloc (.cells #[.int .i64 2, .int .i64 o.a, .int .i64 o.b, .slice o.ad o.l.length o.c] 42)) w.heap.size (w.heap.size + 1) m qs S o.a HM.out.net HM.out.below.size)
          go_wp2_with fail
          refine HC1.out.mono ?_; rintro e w4 ⟨rfl, hn4, hb4, hm4⟩
          have HM4 := Lib.hid (HM.out.op hn4 hb4 hm4)
          have HF4 := Lib.hid (hF.out.take o.a)
          have HC4 := Lib.hid (cnt_mono hC.out (cnt_take_le qs o.a))
          clear hn4 hb4 hm4 HC1
          go_wp2_with fail
          go_roundw
          case rel => exact ⟨k + 1, _, _, xs, ys, by omega, by go_num, HM4, HF4, HC4, by have h := hLen.out; exact ⟨by first | omega | (rw [List.length_append, List.length_singleton]; omega), by first | omega | (rw [List.length_append, List.length_singleton]; omega)⟩⟩
          case measure => simp [intOf]; omega
        · by_cases hk3 : o.kind = 3
          · rw [hk3] at r0
            clear hk1 hk2 hk3
            have HM := Lib.hid (hM.out.old (below_new1 wr (.cells #[.int .i64 3, .int .i64 o.a, .int .i64 o.b, .slice o.ad o.l.length o.c] 42)))
            have HBX := Lib.hid (hp_alloc_new wr (.cells #[.int .i64 3, .int .i64 o.a, .int .i64 o.b, .slice o.ad o.l.length o.c] 42))
            have HLI := Lib.hid (list_ok (wr.alloc (.cells #[.int .i64 3, .int .i64 o.a, .int .i64 o.b, .slice o.ad o.l.length o.c] 42)) w.heap.size (w.heap.size + 1) m qs S HM.out.net hF.out)
            go_wp2_with fail
            refine HLI.out.mono ?_; rintro e w4 ⟨v4, rfl, ht4, hb4⟩
            obtain ⟨ls, hrow, hlq⟩ := told_row HM.out.net HM.out.below.size hb4 ht4
            have HM4 := Lib.hid (HM.out.old hb4)
            have HROW := Lib.hid hrow
            have HLQ := Lib.hid hlq
            have HBX4 := Lib.hid (hp_step HBX.out hb4)
            have HNO4 := Lib.hid (show ¬ Foot w4 (w.heap.size + 1) wr.heap.size from fun hf => by obtain ⟨ps, h1, _⟩ := hM.out.net; have := (foot_lt h1 ((foot_same ((below_step (below_new1 wr (.cells #[.int .i64 3, .int .i64 o.a, .int .i64 o.b, .slice o.ad o.l.length o.c] 42)) hb4).block _ h1.lt) _).1 hf)).1; omega)
            have HD := Lib.hid (doublem w4 w.heap.size (w.heap.size + 1) m qs S o.a HM4.out.net hF.out HM4.out.below.size)
            obtain ⟨x0, x1, x2, x3⟩ := blk4 HBX4.out
            obtain ⟨al, cl, hvl, _⟩ := hrow.row
            subst hvl
            clear ht4 hb4 hrow hlq HLI
            by_cases hE : dblE qs o.a = 0
            · have HE := Lib.hid hE
              rw [hE] at HD
              clear hE
              obtain ⟨y, hy, hin, hcy⟩ := cnt_dbl HE.out
              obtain ⟨i0, hi0⟩ := Int.eq_ofNat_of_zero_le hin.1
              have hlen4 : ls.length = qs.length := by have h := congrArg List.length HLQ.out; rwa [List.length_map] at h
              have hi1 : i0 < ls.length := by have := hin.2; omega
              have HCY := Lib.hid hcy
              have hq0 : q ls[i0] = y := by
                have h1 : qs[i0]? = some y := by rw [hi0] at hy; exact hy
                rw [← HLQ.out] at h1
                simpa [hi1] using h1
              have HQ0 := Lib.hid hq0
              have HI0 := Lib.hid hi0
              rw [hi0] at x1
              clear hy hin hcy hq0
              have t1 : decide ((i0 : Int) < 0) = false := decide_eq_false (by omega)
              have t2 : decide ((ls.length : Int) ≤ (i0 : Int)) = false := decide_eq_false (by omega)
              have t3 : (i0 : Int) < ls.length := by omega
              have t4 : (0 : Int) ≤ i0 := by omega
              have t5 : ¬ (ls.length : Int) ≤ (i0 : Int) := by omega
              rw [hi0] at HD
              go_wp2_with fail
              refine HD.out.mono ?_; rintro e w6 ⟨rfl, hn6, hb6, hm6⟩
              have HM6 := Lib.hid (HM4.out.op hn6 hb6 hm6)
              obtain ⟨ps4, hps4, _⟩ := HM4.out.net
              have HROW6 := Lib.hid (HROW.out.moved hps4 hb6 hm6)
              obtain ⟨y0, y1, y2, y3⟩ := blk4 ((hm6.kept _ (Array.getElem?_eq_some_iff.1 HBX4.out).1 HNO4.out).trans HBX4.out)
              rw [HI0.out] at y1
              obtain ⟨g6, c6, hv6, hz6, _, z0, z1, z2⟩ := HROW6.out.rowp.cells hi1
              simp only [Value.slice.injEq, true_and] at hv6
              obtain ⟨rfl, rfl⟩ := hv6
              have HFX := Lib.hid (HROW6.out.fix _ (List.getElem_mem hi1))
              have hszP : w.heap.size ≤ w6.heap.size := HM6.out.below.size
              clear hn6 hb6 hm6 hps4 HD x0 x1 x2 x3
              obtain ⟨ac, cc, hc, hoc⟩ := HM6.out.sent.row
              subst hc
              have HOWN := Lib.hid hoc
              clear hoc
              obtain ⟨p, hp⟩ : ∃ p, p = ls[i0] := ⟨_, rfl⟩
              rw [← hp] at z0 z1 z2 HFX HQ0
              clear hp
              go_wp2_with (at_builtin; refine wpl_append_at rfl (.tmp 113) (.tmp 119) 43 rfl w.heap.size 48 j0 _ 3 40 Try.underlying43 hj hy0 hy1 hy2 rfl (by decide) _ xs.length (pkcells xs) rfl ((HOWN.out).alloc _) _ 1 1 [.int .i64 p.f, .int .i64 p.t, .slice p.a p.l.length p.c] rfl rfl (lie_new3 _ _ _ _ _) (by simp [Value.oneCell']) (by unfold maxLen; have := hLen.out; omega) (by have := hLen.out; omega) (by rw [size_new]; omega) ?_; intro v5 w5 hown hgr hat5; have HM5 := Lib.hid (HM6.out.push HFX.out hown hgr hat5); clear hown hgr hat5)
              have hcnt : ∀ x, cntQ (ys.map q) x + cntQ (dblQ qs o.a) x ≤ cntQ ((xs ++ [p]).map q) x := by
                intro x
                rw [HCY.out x, List.map_append, List.map_singleton, cntQ_snoc, HQ0.out]
                have := hC.out x
                omega
              have HCN := Lib.hid hcnt
              have HF := Lib.hid (hF.out.dbl o.a)
              rw [HI0.out] at HCN HF
              clear hcnt
              go_roundw
              case rel => exact ⟨k + 1, _, S, _, ys, by omega, by go_num, HM5, HF, HCN, by have h := hLen.out; exact ⟨by first | omega | (rw [List.length_append, List.length_singleton]; omega), by first | omega | (rw [List.length_append, List.length_singleton]; omega)⟩⟩
              case measure => simp [intOf]; omega
            · have hb0 : (dblE qs o.a == 0) = false := by simpa using hE
              have HQ := Lib.hid (dbl_ne hE)
              rw [HQ.out] at HD
              clear hE
              go_wp2_with fail
              refine HD.out.mono ?_; rintro e w6 ⟨rfl, hn6, hb6, hm6⟩
              have HM6 := Lib.hid (HM4.out.op hn6 hb6 hm6)
              clear hn6 hb6 hm6 HD
              go_wp2_with fail
              go_roundw
              case rel => exact ⟨k + 1, qs, S, xs, ys, by omega, by go_num, HM6, hF, hC, by have h := hLen.out; exact ⟨by first | omega | (rw [List.length_append, List.length_singleton]; omega), by first | omega | (rw [List.length_append, List.length_singleton]; omega)⟩⟩
              case measure => simp [intOf]; omega
          · by_cases hk4 : o.kind = 4
            · rw [hk4] at r0
              clear hk1 hk2 hk3 hk4
              have HM := Lib.hid (hM.out.old (below_new1 wr (.cells #[.int .i64 4, .int .i64 o.a, .int .i64 o.b, .slice o.ad o.l.length o.c] 42)))
              have HC1 := Lib.hid (cutm (wr.alloc (.cells #[.int .i64 4, .int .i64 o.a, .int .i64 o.b, .slice o.ad o.l.length o.c] 42)) w.heap.size (w.heap.size + 1) m qs S o.a o.b HM.out.net HM.out.below.size)
              go_wp2_with fail
              refine HC1.out.mono ?_; rintro e w4 ⟨rfl, hn4, hb4, hm4⟩
              have HM4 := Lib.hid (HM.out.op hn4 hb4 hm4)
              have HF4 := Lib.hid (hF.out)
              have HC4 := Lib.hid (hC.out)
              clear hn4 hb4 hm4 HC1
              go_wp2_with fail
              go_roundw
              case rel => exact ⟨k + 1, _, _, xs, ys, by omega, by go_num, HM4, HF4, HC4, by have h := hLen.out; exact ⟨by first | omega | (rw [List.length_append, List.length_singleton]; omega), by first | omega | (rw [List.length_append, List.length_singleton]; omega)⟩⟩
              case measure => simp [intOf]; omega
            · by_cases hk5 : o.kind = 5
              · rw [hk5] at r0
                clear hk1 hk2 hk3 hk4 hk5
                have HM := Lib.hid (hM.out.old (below_new1 wr (.cells #[.int .i64 5, .int .i64 o.a, .int .i64 o.b, .slice o.ad o.l.length o.c] 42)))
                have HC1 := Lib.hid (healm (wr.alloc (.cells #[.int .i64 5, .int .i64 o.a, .int .i64 o.b, .slice o.ad o.l.length o.c] 42)) w.heap.size (w.heap.size + 1) m qs S HM.out.net HM.out.below.size)
                go_wp2_with fail
                refine HC1.out.mono ?_; rintro e w4 ⟨rfl, hn4, hb4, hm4⟩
                have HM4 := Lib.hid (HM.out.op hn4 hb4 hm4)
                have HF4 := Lib.hid (hF.out)
                have HC4 := Lib.hid (hC.out)
                clear hn4 hb4 hm4 HC1
                go_wp2_with fail
                go_roundw
                case rel => exact ⟨k + 1, _, _, xs, ys, by omega, by go_num, HM4, HF4, HC4, by have h := hLen.out; exact ⟨by first | omega | (rw [List.length_append, List.length_singleton]; omega), by first | omega | (rw [List.length_append, List.length_singleton]; omega)⟩⟩
                case measure => simp [intOf]; omega
              · have HM := Lib.hid (hM.out.old (below_new1 wr (.cells #[.int .i64 o.kind, .int .i64 o.a, .int .i64 o.b, .slice o.ad o.l.length o.c] 42)))
                have e1 : (o.kind == 1) = false := by simpa using hk1
                have e2 : (o.kind == 2) = false := by simpa using hk2
                have e3 : (o.kind == 3) = false := by simpa using hk3
                have e4 : (o.kind == 4) = false := by simpa using hk4
                have e5 : (o.kind == 5) = false := by simpa using hk5
                have HBX := Lib.hid (hp_alloc_new wr (.cells #[.int .i64 o.kind, .int .i64 o.a, .int .i64 o.b, .slice o.ad o.l.length o.c] 42))
                have HNO := Lib.hid (show ¬ Foot (wr.alloc (.cells #[.int .i64 o.kind, .int .i64 o.a, .int .i64 o.b, .slice o.ad o.l.length o.c] 42)) (w.heap.size + 1) wr.heap.size from fun hf => by obtain ⟨ps, h1, _⟩ := hM.out.net; have := (foot_lt h1 ((foot_same ((below_new1 wr (.cells #[.int .i64 o.kind, .int .i64 o.a, .int .i64 o.b, .slice o.ad o.l.length o.c] 42)).block _ h1.lt) _).1 hf)).1; omega)
                have HG1 := Lib.hid (HG.out.below (below_new1 wr (.cells #[.int .i64 o.kind, .int .i64 o.a, .int .i64 o.b, .slice o.ad o.l.length o.c] 42)))
                have HD := Lib.hid (sendm (wr.alloc (.cells #[.int .i64 o.kind, .int .i64 o.a, .int .i64 o.b, .slice o.ad o.l.length o.c] 42)) w.heap.size (w.heap.size + 1) m qs S o.a o.b o.ad o.l o.c HM.out.net HM.out.below.size HG1.out.nil HG1.out.lie)
                by_cases hE : sendE m qs S o.a o.b o.l.length = 0
                · rw [hE] at HD
                  clear hE
                  go_wp2_with fail
                  refine HD.out.mono ?_; rintro e w6 ⟨rfl, hn6, hb6, hm6⟩
                  have HM6 := Lib.hid (HM.out.op hn6 hb6 hm6)
                  obtain ⟨y0, y1, y2, y3⟩ := blk4 ((hm6.kept _ (Array.getElem?_eq_some_iff.1 HBX.out).1 HNO.out).trans HBX.out)
                  have HFX := Lib.hid (Fix.keep (fix_in (f := o.a) (t := o.b) (c := o.c) HG0.out.lie (by have h1 := HG0.out.cap; have h2 := HG0.out.len; unfold maxLen at h2; omega)) HM6.out.below (fun g cur hg => HM6.out.below.block g (blk hg).2.2))
                  have hszP : w.heap.size ≤ w6.heap.size := HM6.out.below.size
                  clear hn6 hb6 hm6 HD
                  obtain ⟨ac, cc, hc, hoc⟩ := HM6.out.sent.row
                  subst hc
                  have HOWN := Lib.hid hoc
                  clear hoc
                  go_wp2_with (at_builtin; refine wpl_append_at rfl (.tmp 56) (.tmp 64) 43 rfl w.heap.size 48 j0 _ 3 40 Try.underlying43 hj hy0 hy1 hy2 rfl (by decide) _ xs.length (pkcells xs) rfl ((HOWN.out).alloc _) _ 1 1 [.int .i64 o.a, .int .i64 o.b, .slice o.ad o.l.length o.c] rfl rfl (lie_new3 _ _ _ _ _) (by simp [Value.oneCell']) (by unfold maxLen; have := hLen.out; omega) (by have := hLen.out; omega) (by rw [size_new]; omega) ?_; intro v5 w5 hown hgr hat5; have HM5 := Lib.hid (HM6.out.push HFX.out hown hgr hat5); clear hown hgr hat5)
                  have hcnt : ∀ x, cntQ (ys.map q) x + cntQ (sendQ m qs S o.a o.b o.l) x ≤ cntQ ((xs ++ [(⟨o.a, o.b, o.l, o.ad, o.c⟩ : Pkt)]).map q) x := by
                    intro x
                    rw [List.map_append, List.map_singleton, cntQ_snoc]
                    have h1 := cnt_send m qs S o.a o.b o.l x
                    have h2 := hC.out x
                    show _ ≤ _ + (if sameQ ⟨o.a, o.b, o.l⟩ x = true then 1 else 0)
                    omega
                  have HCN := Lib.hid hcnt
                  have HF := Lib.hid (hF.out.send (nodes := m) S o.a o.b o.l)
                  clear hcnt
                  go_roundw
                  case rel => exact ⟨k + 1, _, S, _, ys, by omega, by go_num, HM5, HF, HCN, by have h := hLen.out; exact ⟨by first | omega | (rw [List.length_append, List.length_singleton]; omega), by first | omega | (rw [List.length_append, List.length_singleton]; omega)⟩⟩
                  case measure => simp [intOf]; omega
                · have hb0 : (sendE m qs S o.a o.b o.l.length == 0) = false := by simpa using hE
                  have HQ := Lib.hid (send_ne hE)
                  rw [HQ.out] at HD
                  clear hE
                  go_wp2_with fail
                  refine HD.out.mono ?_; rintro e w6 ⟨rfl, hn6, hb6, hm6⟩
                  have HM6 := Lib.hid (HM.out.op hn6 hb6 hm6)
                  clear hn6 hb6 hm6 HD
                  go_wp2_with fail
                  go_roundw
                  case rel => exact ⟨k + 1, qs, S, xs, ys, by omega, by go_num, HM6, hF, hC, by have h := hLen.out; exact ⟨by first | omega | (rw [List.length_append, List.length_singleton]; omega), by first | omega | (rw [List.length_append, List.length_singleton]; omega)⟩⟩
                  case measure => simp [intOf]; omega
    · obtain rfl : k = l.length := by omega
      obtain ⟨ac, cc, hc, hoc⟩ := hM.out.come.row
      obtain ⟨av, cs, hs, hos⟩ := hM.out.sent.row
      subst hc hs
      have hyl : ys.length ≤ 3518437208884 := by have := hLen.out; omega
      have hxl : xs.length ≤ 3518437208884 := by have := hLen.out; omega
      have HCO := Lib.hid (fun (wx : World) (hb : Below wr.heap.size wr wx) => (RowF.below hM.out.come hb (is_lt hM.out.net)).rowp)
      have HSE := Lib.hid (fun (wx : World) (hb : Below wr.heap.size wr wx) => (RowF.below hM.out.sent hb (is_lt hM.out.net)).rowp)
      have HBW := Lib.hid hM.out.below
      have HCN := Lib.hid (fun x => (show cntQ (ys.map q) x ≤ cntQ (xs.map q) x by have := hC.out x; omega))
      clear hoc hos hM hC HR HOK HOK0 hLen hF
      go_wp2_with fail
      go_loopw [15] (fun i wz => ∃ k : Nat, k ≤ ys.length ∧ i = .int .i64 k ∧ Hid (Below wr.heap.size wr wz)) (fun i _ => ys.length - (intOf i).toNat)
      case atStart => exact ⟨0, Nat.zero_le _, rfl, (Below.refl _ _ : Below wr.heap.size wr wr)⟩
      case round =>
        obtain ⟨wo, rfl⟩ : ∃ wo : World, wo = wr := ⟨_, rfl⟩
        obtain ⟨j, hjk, rfl, hB⟩ := hrel
        by_cases hlt : j < ys.length
        · have HPD := Lib.hid (fun (wx : World) (hb : Below wr.heap.size wr wx) => (HCO.out wx hb).rd _ (List.getElem_mem hlt))
          obtain ⟨gc, c9, e9, hz9, _, q0, q1, q2⟩ := (HCO.out wo hB.out).cells hlt
          simp only [Value.slice.injEq, true_and] at e9
          obtain ⟨rfl, rfl⟩ := e9
          have HN := Lib.hid (HCN.out (q ys[j]))
          obtain ⟨p, hp⟩ : ∃ p, p = ys[j] := ⟨_, rfl⟩
          rw [← hp] at q0 q1 q2 HPD HN
          have HC1 := Lib.hid (fun (wx : World) (hb : Below wr.heap.size wr wx) => count_any wx _ ys p (HCO.out wx hb) (HPD.out wx hb) (by omega))
          have HS1 := Lib.hid (fun (wx : World) (hb : Below wr.heap.size wr wx) => count_any wx _ xs p (HSE.out wx hb) (HPD.out wx hb) (by omega))
          simp only [Pkt.val] at HC1 HS1
          obtain ⟨n1, hn1⟩ : ∃ n1, n1 = cntQ (ys.map q) (q p) := ⟨_, rfl⟩
          obtain ⟨n2, hn2⟩ : ∃ n2, n2 = cntQ (xs.map q) (q p) := ⟨_, rfl⟩
          rw [← hn1] at HC1 HN
          rw [← hn2] at HS1 HN
          have hn := HN.out
          have t1 : decide ((n2 : Int) < (n1 : Int)) = false := decide_eq_false (by omega)
          have t2 : ¬ (n2 : Int) < (n1 : Int) := by omega
          have hbd : Below wr.heap.size wr wo.drew := below_drewN hB.out 1
          clear hp hn1 hn2 HPD hn
          go_wp2_with fail
          have hStab : ∀ Wx Wy : World, Below Wx.heap.size Wx Wy → (Wx.cell? ⟨gc, j * 3, none⟩ = some (.int .i64 p.f) ∧ Wx.cell? ⟨gc, j * 3 + 1, none⟩ = some (.int .i64 p.t) ∧ Wx.cell? ⟨gc, j * 3 + 2, none⟩ = some (.slice p.a p.l.length p.c) ∧ Below wr.heap.size wr Wx) → (Wy.cell? ⟨gc, j * 3, none⟩ = some (.int .i64 p.f) ∧ Wy.cell? ⟨gc, j * 3 + 1, none⟩ = some (.int .i64 p.t) ∧ Wy.cell? ⟨gc, j * 3 + 2, none⟩ = some (.slice p.a p.l.length p.c) ∧ Below wr.heap.size wr Wy) := by
            intro Wx Wy kk hs
            obtain ⟨s0, s1, s2, s3⟩ := hs
            exact ⟨cell_step s0 kk, cell_step s1 kk, cell_step s2 kk, below_step s3 kk⟩
          have HhStab := Lib.hid hStab
          clear hStab
          have lC1 : Hid (∀ Wx : World, (Wx.cell? ⟨gc, j * 3, none⟩ = some (.int .i64 p.f) ∧ Wx.cell? ⟨gc, j * 3 + 1, none⟩ = some (.int .i64 p.t) ∧ Wx.cell? ⟨gc, j * 3 + 2, none⟩ = some (.slice p.a p.l.length p.c) ∧ Below wr.heap.size wr Wx) → Calls Try.prog 24 #[.slice (some ⟨gc, 0, none⟩) ys.length cc, .agg #[.int .i64 p.f, .int .i64 p.t, .slice p.a p.l.length p.c]] Wx fun e w' => e = .returned (.int .i64 n1) ∧ Below Wx.heap.size Wx w') := by
            intro Wx hs
            obtain ⟨s0, s1, s2, s3⟩ := hs
            have hK := s3
            exact HC1.out _ hK
          have lS1 : Hid (∀ Wx : World, (Wx.cell? ⟨gc, j * 3, none⟩ = some (.int .i64 p.f) ∧ Wx.cell? ⟨gc, j * 3 + 1, none⟩ = some (.int .i64 p.t) ∧ Wx.cell? ⟨gc, j * 3 + 2, none⟩ = some (.slice p.a p.l.length p.c) ∧ Below wr.heap.size wr Wx) → Calls Try.prog 24 #[.slice av xs.length cs, .agg #[.int .i64 p.f, .int .i64 p.t, .slice p.a p.l.length p.c]] Wx fun e w' => e = .returned (.int .i64 n2) ∧ Below Wx.heap.size Wx w') := by
            intro Wx hs
            obtain ⟨s0, s1, s2, s3⟩ := hs
            have hK := s3
            exact HS1.out _ hK
          go_region_held3 (fun w' => w'.cell? ⟨gc, j * 3, none⟩ = some (.int .i64 p.f) ∧ w'.cell? ⟨gc, j * 3 + 1, none⟩ = some (.int .i64 p.t) ∧ w'.cell? ⟨gc, j * 3 + 2, none⟩ = some (.slice p.a p.l.length p.c) ∧ Below wr.heap.size wr w') (first | (exact ⟨q0, q1, q2, hbd⟩) | (refine HhStab.out _ _ hbn ?_; assumption)) (first | (go_at_call 24; with_reducible refine (lC1.out _ (by assumption)).mono ?_; rintro e wn ⟨rfl, hbn⟩) | (go_at_call 24; with_reducible refine (lS1.out _ (by assumption)).mono ?_; rintro e wn ⟨rfl, hbn⟩))
          have hS : wn.cell? ⟨gc, j * 3, none⟩ = some (.int .i64 p.f) ∧ wn.cell? ⟨gc, j * 3 + 1, none⟩ = some (.int .i64 p.t) ∧ wn.cell? ⟨gc, j * 3 + 2, none⟩ = some (.slice p.a p.l.length p.c) ∧ Below wr.heap.size wr wn := by assumption
          have HB9 := Lib.hid hS.2.2.2
          go_wp2_with fail
          go_roundw
          case rel => exact ⟨j + 1, by omega, by go_num, HB9⟩
          case measure => simp [intOf]; omega
        · obtain rfl : j = ys.length := by omega
          go_wp2_with fail
          go_ret
          exact ⟨rfl, below_step HBW.out hB.out⟩

theorem lawWalk {H : Type} (enc : TypeId × Value → H) : LawWalk enc Try.prog 6 Try.f6 (fun _ => True) := by
  intro W base args ds p hval hA hsz _
  rw [Try.params6] at hA hval hsz
  obtain ⟨v0, vs0, d0, ds0, p0, q0, hargs, rfl, rfl, h0, r0⟩ := trodAll_cons hA
  obtain ⟨v1, vs1, d1, ds1, p1, q1, rfl, rfl, rfl, h1, r1⟩ := trodAll_cons r0
  obtain ⟨rfl, rfl, rfl⟩ := trodAll_nil r1
  obtain rfl : args = #[v0, v1] := by cases args; simp_all
  obtain ⟨n0, rfl, rfl, rfl, w0⟩ := open_int Try.underlying3 (hval 0 3 v0 rfl rfl) h0
  obtain ⟨a, l, cap, es, sp, rfl, hlc, hcm, hn, hat, hd, hel, hsp, hgood⟩ := open_slice_gen 4 ocells (fun o _ => GoodO W o) Try.underlying22 (by kernel_rfl) (by omega) (fun n cs y _ h => elem_op n cs y h) (hval 1 22 v1 rfl rfl) h1
  have hlen : l.length * 48 ≤ 140737488355328 := by
    rcases hd with ⟨_, rfl, _, _⟩ | rfl
    · simp
    · have := sized_slice hsz (j := 1) rfl rfl Try.underlying22
      have e1 : Try.prog.bytesOf 42 = 48 := by kernel_rfl
      rw [e1] at this
      simp only [reachBytes] at this
      omega
  exact honest_ok W n0 a l cap hlen hat (fun k hk => hgood k hk (by omega))

theorem own : ownKnob Try.prog.godebug = none := by kernel_rfl
theorem laidOut : laidOutB Try.prog = true := by kernel_rfl

set_option maxRecDepth 100000 in
theorem lifted (os : Os) (started : os.Started) (H : Type) (enc : TypeId × Value → H) :
    ReturnsInHanded {} Try.checked os 6 .any (Rows.netHonestSpec.pre6 enc Try.prog Try.f6 Rows.netHonestRow.domain false) (Rows.netHonestSpec.post enc Try.prog Try.f6 false true false false) := by
  refine returnsInHanded_of_change_sized (C := Try.checked) own started (by kernel_rfl) Try.func6
    (ChangeSpec.witness6 (enc := enc) (C := Try.checked) false ⟨#[], #[.int .i64 0, .slice none 0 0], []⟩ 8 (by kernel_rfl) (by kernel_rfl) (by kernel_rfl) (by kernel_rfl)) ?_
  intro W base args ds gs before hval hW hcnd hsz _
  exact law_post (C := Try.checked) laidOut (fun ds h => by match ds, h with | [_, _], _ => rfl) 4 rfl Try.underlying4 rfl (by kernel_rfl) hval hW hsz trivial (lawWalk enc)

theorem proved : Rows.NetHonestSaid :=
  OpenClaim.holds_of_wide 6 Try.f6 rfl rfl rfl rfl rfl rfl rfl ⟨rfl, rfl, rfl, rfl, rfl⟩ rfl rfl rfl rfl rfl (by kernel_rfl) Try.func6 (by kernel_rfl)
    (of_decide_eq_true (by kernel_rfl)) (by unfold Func.isWrapper; first | (rw [if_pos (by decide +kernel)]; kernel_rfl) | (rw [if_neg (by decide +kernel)]; exact ⟨rfl, rfl⟩))
    (fun os started H enc _ => lifted os started H enc)
#print axioms proved
end Go.Proofs.Ytnnfagdhigodbaa.netHonest
