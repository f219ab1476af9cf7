/-
  AcceptLast: the vote that is told for a slot is the last one that was accepted for it, as long as it is not forgotten; and one that was accepted for each slot alone.
-/
import Derived.Test.YtafjmedjaepimaaAccP
import Derived.Test.YtafjmedjaepimaaChecked
import Derived.Test.YtafjmedjaepimaaRows
import Derived.Deep.CutBlock
import Derived.Deep.RegionHeld3
namespace Go.Proofs.Ytafjmedjaepimaa.acceptLast
open Go.ChangeShapes Go.WideShapes Go.ChangeAt Go.RowKit Go.Joins
open Go.Proofs.Ytafjmedjaepimaa.kit Go.Proofs.Ytafjmedjaepimaa.mapkit Go.Proofs.Ytafjmedjaepimaa.byt Go.Proofs.Ytafjmedjaepimaa.own Go.Proofs.Ytafjmedjaepimaa.accd Go.Proofs.Ytafjmedjaepimaa.acca Go.Proofs.Ytafjmedjaepimaa.accb Go.Proofs.Ytafjmedjaepimaa.acck Go.Proofs.Ytafjmedjaepimaa.acce Go.Proofs.Ytafjmedjaepimaa.accf Go.Proofs.Ytafjmedjaepimaa.accg Go.Proofs.Ytafjmedjaepimaa.acch Go.Proofs.Ytafjmedjaepimaa.acci Go.Proofs.Ytafjmedjaepimaa.accj Go.Proofs.Ytafjmedjaepimaa.accr Go.Proofs.Ytafjmedjaepimaa.accl Go.Proofs.Ytafjmedjaepimaa.accp
set_option linter.unusedVariables false
set_option linter.unusedSimpArgs false
set_option maxHeartbeats 4000000
set_option maxRecDepth 100000

theorem first_b (w : World) (base b mb : Nat) (A : AS) (h : AccIs w base b mb A) : Calls Try.prog 18 #[.pointer (some ⟨b, 0, none⟩)] w fun e w' => e = .returned (.int .i64 A.first) ∧ Below w.heap.size w w' := by
  refine (first_ok w base b mb A h).mono ?_
  rintro e w' ⟨rfl, rfl⟩
  exact ⟨rfl, Below.refl _ _⟩
theorem blk5 {w : World} {b : Nat} {x y z u t : Value} {T : TypeId} (h : w.heap[b]? = some (.cells #[x, y, z, u, t] T (0, 0))) : w.cell? ⟨b, 0, none⟩ = some x ∧ w.cell? ⟨b, 1, none⟩ = some y ∧ w.cell? ⟨b, 2, none⟩ = some z ∧ w.cell? ⟨b, 3, none⟩ = some u ∧ w.cell? ⟨b, 4, none⟩ = some t ∧ b < w.heap.size := by
  obtain ⟨h1, h2, h3⟩ := kit.blk h
  exact ⟨h1 0, h1 1, h1 2, h1 3, h1 4, h3⟩
/-- Is a vote for this slot among these? -/
def hasS (s : Int) (l : List Vt) : Bool := l.any fun y => y.s == s
theorem has_snoc (s : Int) (l : List Vt) (n : Nat) (hn : n < l.length) : hasS s (l.take (n + 1)) = (hasS s (l.take n) || l[n].s == s) := by
  rw [List.take_succ_eq_append_getElem hn, hasS, List.any_append]
  simp [hasS]
theorem has_yes {s : Int} {l : List Vt} {f : Int} (h : s < f ∨ ∃ y ∈ l.map lv, y.s = s) : (decide (s < f) || hasS s l) = true := by
  rcases h with h | ⟨y, hy, h1⟩
  · simp [h]
  · obtain ⟨z, hz, rfl⟩ := List.mem_map.1 hy
    have : hasS s l = true := List.any_eq_true.2 ⟨z, hz, by simpa [lv] using h1⟩
    simp [this]

theorem last_ok (w : World) (a : Option Addr) (l : List OpV) (cap : Nat) (hl : l.length * 48 ≤ 140737488355328) (hat : RowsAt w a 5 (l.map ocells)) (hok : ∀ k (hk : k < l.length), GoodO w (l[k])) :
    Calls Try.prog 3 #[.slice a l.length cap] w fun e w' => e = .returned (.bool true) ∧ Below w.heap.size w w' := by
  have HR := Lib.hid (fun (wr : World) (hb : Below w.heap.size w wr) k hk => row_op (hat.below hb) k hk)
  have HOK0 := Lib.hid hok
  have HN := Lib.hid (newA_ok w)
  obtain ⟨j0, hj, hy0, hy1, hy2⟩ := info_parts accc.infoVote
  have HHD := Lib.hid (fun k => held_st (l.take k))
  have HLN := Lib.hid (fun k => st_len (l.take k))
  clear hat hok
  go_enter Try.func3, Try.ntmps3
  go_wp2_with fail
  refine HN.out.mono ?_; rintro e w1 ⟨rfl, hA1, hb1⟩
  have HA1 := Lib.hid hA1
  have HB1 := Lib.hid hb1
  clear hA1 hb1 HN
  go_wp2_with fail
  refine (awake_any w1).mono ?_; rintro e w2 ⟨rfl, hb2⟩
  have HB2 := Lib.hid (below_step HB1.out hb2)
  obtain ⟨b, hbdef⟩ : ∃ b, b = w.heap.size + 1 := ⟨_, rfl⟩
  obtain ⟨mb, hmdef⟩ : ∃ mb, mb = w.heap.size := ⟨_, rfl⟩
  have HBE2 := Lib.hid (⟨by rw [hbdef, hmdef]; exact HA1.out.below hb2, HB2.out, ⟨⟨none, 0, rfl, World.ownsRow_nil _ _ _ _⟩, by simp⟩⟩ : Beh w b mb ⟨startS, []⟩ (.slice none 0 0) w2)
  rw [← hbdef]
  have hbb : w.heap.size ≤ b := by omega
  have hmm : w.heap.size ≤ mb := by omega
  clear hb2 HA1 HB1 hbdef hmdef
  go_wp2_with fail
  go_loopw [4, 5] (fun v i wr => ∃ k : Nat, k ≤ l.length ∧ i = .int .i64 k ∧ (∃ a c, v = .slice a (stL (l.take k)).xs.length c) ∧ Hid (Beh w b mb (stL (l.take k)) v wr)) (fun _ i _ => l.length - (intOf i).toNat)
  case atStart => exact ⟨0, Nat.zero_le _, rfl, ⟨none, 0, rfl⟩, HBE2⟩
  case round =>
    obtain ⟨k, hk, rfl, ⟨al, cl, rfl⟩, hL⟩ := hrel
    by_cases hlt : k < l.length
    · have HS := Lib.hid (stL_snoc l k hlt)
      have HH1 := Lib.hid (HHD.out (k + 1))
      have HL0 := Lib.hid (HLN.out k)
      have HL1 := Lib.hid (HLN.out (k + 1))
      have HGO := Lib.hid (HOK0.out k hlt)
      obtain ⟨g, off, rfl, hgz, r0, r1, r2, r3, r4⟩ := HR.out wr hL.out.below k hlt
      obtain ⟨o, ho⟩ : ∃ o, o = l[k] := ⟨_, rfl⟩
      rw [← ho] at HS HGO r0 r1 r2 r3 r4
      obtain ⟨S0, hS0⟩ : ∃ S, S = stL (l.take k) := ⟨_, rfl⟩
      rw [← hS0] at hL HS HL0
      obtain ⟨S1, hS1⟩ : ∃ S, S = stL (l.take (k + 1)) := ⟨_, rfl⟩
      rw [← hS1] at HS HH1 HL1
      have HREL := Lib.hid (fun a1 c1 wz (h : Hid (Beh w b mb S1 (.slice a1 S1.xs.length c1) wz)) => (by rw [← hS1]; exact ⟨⟨a1, c1, rfl⟩, h⟩ : (∃ a c, Value.slice a1 S1.xs.length c1 = .slice a (stL (l.take (k + 1))).xs.length c) ∧ Hid (Beh w b mb (stL (l.take (k + 1))) (.slice a1 S1.xs.length c1) wz)))
      have hl0 : S0.xs.length ≤ k := by have h := HL0.out; rw [List.length_take] at h; omega
      have hl1 : S1.xs.length ≤ k + 1 := by have h := HL1.out; rw [List.length_take] at h; omega
      clear ho hS1 HL0 HL1
      rw [← hS0]
      clear hS0
      have hn5 := hp_alloc_new wr (.cells #[.int .i64 o.kind, .int .i64 o.s, .int .i64 o.r, .int .i64 o.n, .slice o.ad o.l.length o.c] 31)
      have HBE0 := Lib.hid (hL.out.old (below_new1 wr (.cells #[.int .i64 o.kind, .int .i64 o.s, .int .i64 o.r, .int .i64 o.n, .slice o.ad o.l.length o.c] 31)))
      obtain ⟨w6, hw6⟩ : ∃ w6, w6 = wr.alloc (.cells #[.int .i64 o.kind, .int .i64 o.s, .int .i64 o.r, .int .i64 o.n, .slice o.ad o.l.length o.c] 31) := ⟨_, rfl⟩
      obtain ⟨pb, hpb⟩ : ∃ pb, pb = wr.heap.size := ⟨_, rfl⟩
      rw [← hw6] at HBE0 hn5
      rw [← hpb] at hn5
      have HW6 := Lib.hid hw6
      have HPB := Lib.hid hpb
      have HN5 := Lib.hid hn5
      clear hn5 hw6 hpb
      go_upto_region 9 with fail
      rw [← HW6.out, ← HPB.out]
      obtain ⟨x0, x1, x2, x3, x4, xz⟩ := blk5 HN5.out
      clear HW6 HPB r0 r1 r2 r3 r4 hgz hL
      go_upto_block 2 with fail
      go_cut [4] from 33 to 56 (fun v wx => (∃ a c, v = .slice a S1.xs.length c) ∧ Hid (Beh w b mb S1 v wx))
      case first =>
        by_cases hk1 : o.kind = 1
        · have e1 : (o.kind == 1) = true := by simp [hk1]
          have HST := Lib.hid (HS.out.trans (stepL_1 S0 o hk1))
          have HC := Lib.hid (prepare_ok w6 w.heap.size b mb S0.A o.r o.n o.s HBE0.out.acc)
          clear hk1
          go_wp2_with fail
          refine HC.out.mono ?_; rintro e w7 ⟨v7, rfl, _, hl7, hk7⟩
          have HBE := Lib.hid (HBE0.out.keep hbb hmm hl7 hk7)
          rw [← HST.out] at HBE
          have hxl : S0.xs.length = S1.xs.length := by rw [HST.out]
          rw [hxl] at HBE
          clear hl7 hk7 HC
          go_wp2_with fail
          go_meet
          case rel => exact ⟨⟨al, cl, by first | rfl | rw [hxl]⟩, by first | exact HBE | (rw [hxl]; exact HBE)⟩
        · by_cases hk2 : o.kind = 2
          · have e1 : (o.kind == 1) = false := by simp [hk2]
            have e2 : (o.kind == 2) = true := by simp [hk2]
            have HST := Lib.hid (HS.out.trans (stepL_2 S0 o hk2))
            have HC := Lib.hid (forget_ok w6 w.heap.size b mb S0.A o.s HBE0.out.acc)
            clear hk1 hk2
            go_wp2_with fail
            refine HC.out.mono ?_; rintro e w7 ⟨rfl, hl7, hk7⟩
            have HBE := Lib.hid (HBE0.out.keep hbb hmm hl7 hk7)
            rw [← HST.out] at HBE
            have hxl : S0.xs.length = S1.xs.length := by rw [HST.out]
            rw [hxl] at HBE
            clear hl7 hk7 HC
            go_wp2_with fail
            go_meet
            case rel => exact ⟨⟨al, cl, by first | rfl | rw [hxl]⟩, by first | exact HBE | (rw [hxl]; exact HBE)⟩
          · have e1 : (o.kind == 1) = false := by simpa using hk1
            have e2 : (o.kind == 2) = false := by simpa using hk2
            have HV := Lib.hid (vote_ok w6 o)
            have HAC := Lib.hid (fun w2 (hb : Below w6.heap.size w6 w2) => accept_ok w2 w.heap.size b mb S0.A o.vt (HBE0.out.acc.below hb) (Nat.le_trans HBE0.out.below.size hb.size) (HGO.out.below (below_step HBE0.out.below hb)).rd HGO.out.slot.1 HGO.out.slot.2)
            go_wp2_with fail
            refine HV.out.mono ?_; rintro e w7 ⟨rfl, hb7⟩
            have HC := Lib.hid (HAC.out w7 hb7)
            have HBE7 := Lib.hid (HBE0.out.old hb7)
            have HN7 := Lib.hid (hp_step HN5.out hb7)
            simp only [Vt.val] at HC ⊢
            clear hb7 HAC HV x0 x1 x2 x3 x4 xz
            by_cases hE : accE S0.A.r S0.A.n S0.A.first (lv o.vt) = 0
            · rw [hE] at HC
              have HST := Lib.hid (HS.out.trans (stepL_3 S0 o hk1 hk2 hE))
              have HRD := Lib.hid (⟨HGO.out.lie, HGO.out.nil, by have h := (acc0 hE).2.1; have e : (lv o.vt).l.length = o.vt.l.length := rfl; omega⟩ : Rd w o.vt)
              clear hE
              go_wp2_with fail
              refine HC.out.mono ?_; rintro e w8 ⟨rfl, hl8, hk8⟩
              have hn8 := (hk8.block pb (kit.blk HN7.out).2.2 (fun hx => by
                obtain ⟨vs, h1, -⟩ := HBE7.out.acc
                rcases hx with hx | hx
                · have e := h1.blk
                  rw [← hx, HN7.out] at e
                  simp at e
                · obtain ⟨es, cl2, hm2⟩ := h1.map.obj
                  rw [← hx, HN7.out] at hm2
                  simp at hm2)).trans HN7.out
              have HBE := Lib.hid (HBE7.out.keep hbb hmm hl8 hk8)
              obtain ⟨x0, x1, x2, x3, x4, xz⟩ := blk5 hn8
              have HV8 := Lib.hid (vote_ok w8 o)
              clear hl8 hk8 HC hn8
              go_wp2_with fail
              refine HV8.out.mono ?_; rintro e w9 ⟨rfl, hb9⟩
              have HBE9 := Lib.hid (HBE.out.old hb9)
              obtain ⟨ar, cr, hre, hrow⟩ := HBE9.out.lst.row
              simp only [Value.slice.injEq, true_and] at hre
              obtain ⟨rfl, rfl⟩ := hre
              have HROW := Lib.hid (hrow : w9.ownsRow w.heap.size 38 4 (.slice al S0.xs.length cl) S0.xs.length (vcells S0.xs))
              have hsz9 := HBE9.out.below.size
              simp only [Vt.val]
              have hot1 : o.vt.s = o.s := rfl
              clear hb9 hrow HV8
              have HPUSH : Hid (∀ v5 w5, w5.ownsRow w.heap.size 38 4 v5 (S0.xs.length + 1) (vcells S0.xs ++ [.int .i64 o.s, .int .i64 o.r, .int .i64 o.n, .slice o.ad o.l.length o.c]) → (w9.alloc (.cells #[.int .i64 o.s, .int .i64 o.r, .int .i64 o.n, .slice o.ad o.l.length o.c] 38)).grownBy w5 (Value.slice al S0.xs.length cl).ownBlock → Beh w b mb S1 v5 w5) := by
                intro v5 w5 hown hgr
                have hbn := below_new1 w9 (.cells #[.int .i64 o.s, .int .i64 o.r, .int .i64 o.n, .slice o.ad o.l.length o.c] 38)
                have hB := HBE9.out.old hbn
                have hrw := own_below HROW.out hbn
                rw [HST.out]
                refine ⟨acc_grown hB.acc hrw hgr, ?_, Lst.push HBE9.out.lst HRD.out hown⟩
                refine hB.below.grown hgr (hB.below.size) (fun j hj => (own_from hrw j (own_block hrw j hj)).1)
              go_wp2_with (at_builtin; refine wpl_append rfl (.tmp 38) (.tmp 41) 26 rfl w.heap.size 38 j0 _ 4 48 Try.underlying26 hj hy0 hy1 hy2 rfl (by decide) _ S0.xs.length (vcells S0.xs) rfl (HROW.out.alloc _) (some ⟨w9.heap.size, 0, none⟩) 1 1 [.int .i64 o.s, .int .i64 o.r, .int .i64 o.n, .slice o.ad o.l.length o.c] rfl (by simp) rfl (accc.lie_new4 _ _ _ _ _ _) (by simp [Value.oneCell']) (by unfold maxLen; omega) (by omega) (by rw [size_new]; omega) ?_; intro v5 w5 hown hgr; have HB5 := Lib.hid (HPUSH.out v5 w5 hown hgr); clear hown hgr)
              obtain ⟨a5, c5, rfl⟩ : ∃ a c, v5 = .slice a S1.xs.length c := by
                obtain ⟨a, c, h, -⟩ := HB5.out.lst.row
                exact ⟨a, c, h⟩
              go_meet
              case rel => exact ⟨⟨a5, c5, rfl⟩, HB5⟩
            · have hb0 : (accE S0.A.r S0.A.n S0.A.first (lv o.vt) == 0) = false := by simpa using hE
              have HST := Lib.hid (HS.out.trans (stepL_4 S0 o hk1 hk2 hE))
              clear hE
              go_wp2_with fail
              refine HC.out.mono ?_; rintro e w8 ⟨rfl, hl8, hk8⟩
              have HBE := Lib.hid (HBE7.out.keep hbb hmm hl8 hk8)
              rw [← HST.out] at HBE
              have hxl : S0.xs.length = S1.xs.length := by rw [HST.out]
              rw [hxl] at HBE
              clear hl8 hk8 HC
              go_wp2_with fail
              go_meet
              case rel => exact ⟨⟨al, cl, by first | rfl | rw [hxl]⟩, by first | exact HBE | (rw [hxl]; exact HBE)⟩
      case rest =>
        obtain ⟨⟨a1, c1, rfl⟩, HBE⟩ := hcut
        clear HGO x0 x1 x2 x3 x4 xz HN5 HBE0 HS hl0
        have hlen := is_len HBE.out.acc
        have hone := is_one HBE.out.acc
        have HV := Lib.hid (votes_row wc _ _ _ _ HBE.out.acc)
        go_wp2_with fail
        refine HV.out.mono ?_; rintro e w8 ⟨ay, cy, ys, rfl, hrow, hys, hb8⟩
        have hyl : ys.length ≤ 16 := by have h := congrArg List.length hys; rw [List.length_map] at h; omega
        have HBE8 := Lib.hid (HBE.out.old hb8)
        have HRY := Lib.hid hrow
        have HYS := Lib.hid hys
        have HRX := Lib.hid (HBE8.out.lst.rowv HBE8.out.below)
        obtain ⟨xs, hxs⟩ : ∃ xs, xs = S1.xs := ⟨_, rfl⟩
        have HXS := Lib.hid hxs
        rw [← hxs] at HRX hl1
        rw [← hxs]
        have hxl : xs.length ≤ 9223372036854775806 := by omega
        clear hb8 hrow hys HBE HV hxs
        go_wp2_with fail
        go_loopw [8] (fun i wz => ∃ m : Nat, m ≤ ys.length ∧ i = .int .i64 m ∧ Hid (Below w8.heap.size w8 wz)) (fun i _ => ys.length - (intOf i).toNat)
        case atStart => exact ⟨0, Nat.zero_le _, rfl, (Below.refl _ _ : Below w8.heap.size w8 w8)⟩
        case round =>
          obtain ⟨wo, rfl⟩ : ∃ wo : World, wo = wr := ⟨_, rfl⟩
          obtain ⟨m, hm, rfl, HBZ⟩ := hrel
          by_cases hml : m < ys.length
          · have HYC := Lib.hid (fun (wx : World) (hb : Below w8.heap.size w8 wx) => (HRY.out.below hb).cells hml)
            have HYR := Lib.hid (fun (wx : World) (hb : Below w8.heap.size w8 wx) => (HRY.out.below hb).rd _ (List.getElem_mem hml))
            obtain ⟨i, hi1, hi2⟩ := HH1.out.last (lv ys[m]) (by rw [← HYS.out]; exact List.mem_map_of_mem (List.getElem_mem hml))
            rw [← HXS.out] at hi1 hi2
            rw [List.length_map] at hi1
            obtain ⟨y, hy⟩ : ∃ y, y = ys[m] := ⟨_, rfl⟩
            rw [← hy] at HYC HYR hi1 hi2
            have hil : i < xs.length := by
              by_cases hi : i < xs.length
              · exact hi
              · rw [List.getElem?_eq_none (by rw [List.length_map]; omega)] at hi2; simp at hi2
            have hxi : lv xs[i] = lv y := by
              rw [List.getElem?_map, List.getElem?_eq_getElem hil] at hi2
              simpa using hi2
            have HI1 := Lib.hid hi1
            have HXI := Lib.hid hxi
            clear hy hi1 hi2 hxi
            go_wp2_with fail
            go_loopw [9, 10] (fun t j wz => ∃ n : Nat, n ≤ xs.length ∧ j = .int .i64 n ∧ Hid (t = .int .i64 (atN (xs.map lv) (lv y).s n)) ∧ Hid (Below w8.heap.size w8 wz)) (fun _ j _ => xs.length - (intOf j).toNat)
            case atStart => exact ⟨0, Nat.zero_le _, rfl, (rfl : Value.int .i64 (-1) = .int .i64 (atN (xs.map lv) (lv y).s 0)), HBZ⟩
            case round =>
              obtain ⟨wo2, rfl⟩ : ∃ wo2 : World, wo2 = wr := ⟨_, rfl⟩
              obtain ⟨n, hn, rfl, hT, HBN⟩ := hrel
              by_cases hnl : n < xs.length
              · obtain ⟨gx, c7, e7, hgx, hcap7, x0, x1, x2, x3⟩ := (HRX.out.below HBN.out).cells hnl
                simp only [Value.slice.injEq, true_and] at e7
                obtain ⟨rfl, rfl⟩ := e7
                obtain ⟨gy, c8, e8, hgy, -, y0, y1, y2, y3⟩ := HYC.out wo2 HBN.out
                simp only [Value.slice.injEq, true_and] at e8
                obtain ⟨rfl, rfl⟩ := e8
                have HTS := Lib.hid (atN_step (xs.map lv) (lv y).s n (by rw [List.length_map]; exact hnl))
                simp only [List.getElem_map] at HTS
                obtain ⟨x, hx⟩ : ∃ x, x = xs[n] := ⟨_, rfl⟩
                rw [← hx] at x0 x1 x2 x3 HTS
                obtain ⟨t, ht⟩ : ∃ t, t = atN (xs.map lv) (lv y).s n := ⟨_, rfl⟩
                have hT' := hT.out
                rw [← ht] at hT' HTS
                subst hT'
                clear hx ht hT hcap7
                by_cases hxy : x.s = y.s
                · have e1 : (x.s == y.s) = true := by simp [hxy]
                  have HTN : Hid (atN (xs.map lv) (lv y).s (n + 1) = n) := by
                    show _ = _
                    rw [HTS.out, if_pos (show (lv x).s = (lv y).s from hxy)]
                  clear hxy HTS
                  go_wp2_with fail
                  go_quiet (fail)
                  go_wp2_with fail
                  go_roundw
                  case rel => exact ⟨n + 1, by omega, by go_num, (by show _ = _; rw [HTN.out]), below_drewN HBN.out _⟩
                  case measure => simp [intOf]; omega
                · have e1 : (x.s == y.s) = false := by simp [hxy]
                  have HTN : Hid (atN (xs.map lv) (lv y).s (n + 1) = t) := by
                    show _ = _
                    rw [HTS.out, if_neg (show ¬ (lv x).s = (lv y).s from hxy)]
                  clear hxy HTS
                  go_wp2_with fail
                  go_quiet (fail)
                  go_wp2_with fail
                  go_roundw
                  case rel => exact ⟨n + 1, by omega, by go_num, (by show _ = _; rw [HTN.out]), below_drewN HBN.out _⟩
                  case measure => simp [intOf]; omega
              · obtain rfl : n = xs.length := by omega
                have hT' := hT.out
                rw [HI1.out] at hT'
                subst hT'
                have HXR := Lib.hid (fun (wx : World) (hb : Below w8.heap.size w8 wx) => (HRX.out.below hb).rd _ (List.getElem_mem hil))
                obtain ⟨gx, c7, e7, hgx, hcap7, z0, z1, z2, z3⟩ := (HRX.out.below HBN.out).cells hil
                simp only [Value.slice.injEq, true_and] at e7
                obtain ⟨rfl, rfl⟩ := e7
                obtain ⟨gy, c8, e8, hgy, -, y0, y1, y2, y3⟩ := HYC.out wo2 HBN.out
                simp only [Value.slice.injEq, true_and] at e8
                obtain ⟨rfl, rfl⟩ := e8
                obtain ⟨x, hx⟩ : ∃ x, x = xs[i] := ⟨_, rfl⟩
                rw [← hx] at z0 z1 z2 z3 HXI HXR
                have HSV : Hid (∀ wx, Below w8.heap.size w8 wx → Calls Try.prog 17 #[.agg #[.int .i64 x.s, .int .i64 x.r, .int .i64 x.n, .slice x.a x.l.length x.c], .agg #[.int .i64 y.s, .int .i64 y.r, .int .i64 y.n, .slice y.a y.l.length y.c]] wx fun e w' => e = .returned (.bool true) ∧ Below wx.heap.size wx w') := by
                  intro wx hb
                  have h := samev_any wx x y (HXR.out wx hb) (HYR.out wx hb)
                  rwa [(sameV_iff _ _).2 HXI.out] at h
                clear hx hT hcap7
                go_wp2_with fail
                have hStab : ∀ Wx Wy : World, Below Wx.heap.size Wx Wy → (Wx.cell? ⟨gx, i * 4, none⟩ = some (.int .i64 x.s) ∧ Wx.cell? ⟨gx, i * 4 + 1, none⟩ = some (.int .i64 x.r) ∧ Wx.cell? ⟨gx, i * 4 + 2, none⟩ = some (.int .i64 x.n) ∧ Wx.cell? ⟨gx, i * 4 + 3, none⟩ = some (.slice x.a x.l.length x.c) ∧ Wx.cell? ⟨gy, m * 4, none⟩ = some (.int .i64 y.s) ∧ Wx.cell? ⟨gy, m * 4 + 1, none⟩ = some (.int .i64 y.r) ∧ Wx.cell? ⟨gy, m * 4 + 2, none⟩ = some (.int .i64 y.n) ∧ Wx.cell? ⟨gy, m * 4 + 3, none⟩ = some (.slice y.a y.l.length y.c) ∧ Below w8.heap.size w8 Wx) → (Wy.cell? ⟨gx, i * 4, none⟩ = some (.int .i64 x.s) ∧ Wy.cell? ⟨gx, i * 4 + 1, none⟩ = some (.int .i64 x.r) ∧ Wy.cell? ⟨gx, i * 4 + 2, none⟩ = some (.int .i64 x.n) ∧ Wy.cell? ⟨gx, i * 4 + 3, none⟩ = some (.slice x.a x.l.length x.c) ∧ Wy.cell? ⟨gy, m * 4, none⟩ = some (.int .i64 y.s) ∧ Wy.cell? ⟨gy, m * 4 + 1, none⟩ = some (.int .i64 y.r) ∧ Wy.cell? ⟨gy, m * 4 + 2, none⟩ = some (.int .i64 y.n) ∧ Wy.cell? ⟨gy, m * 4 + 3, none⟩ = some (.slice y.a y.l.length y.c) ∧ Below w8.heap.size w8 Wy) := by
                  intro Wx Wy kk hs
                  obtain ⟨s0, s1, s2, s3, s4, s5, s6, s7, s8⟩ := hs
                  exact ⟨cell_step s0 kk, cell_step s1 kk, cell_step s2 kk, cell_step s3 kk, cell_step s4 kk, cell_step s5 kk, cell_step s6 kk, cell_step s7 kk, below_step s8 kk⟩
                have HhStab := Lib.hid hStab
                clear hStab
                have lV : Hid (∀ Wx : World, (Wx.cell? ⟨gx, i * 4, none⟩ = some (.int .i64 x.s) ∧ Wx.cell? ⟨gx, i * 4 + 1, none⟩ = some (.int .i64 x.r) ∧ Wx.cell? ⟨gx, i * 4 + 2, none⟩ = some (.int .i64 x.n) ∧ Wx.cell? ⟨gx, i * 4 + 3, none⟩ = some (.slice x.a x.l.length x.c) ∧ Wx.cell? ⟨gy, m * 4, none⟩ = some (.int .i64 y.s) ∧ Wx.cell? ⟨gy, m * 4 + 1, none⟩ = some (.int .i64 y.r) ∧ Wx.cell? ⟨gy, m * 4 + 2, none⟩ = some (.int .i64 y.n) ∧ Wx.cell? ⟨gy, m * 4 + 3, none⟩ = some (.slice y.a y.l.length y.c) ∧ Below w8.heap.size w8 Wx) → Calls Try.prog 17 #[.agg #[.int .i64 x.s, .int .i64 x.r, .int .i64 x.n, .slice x.a x.l.length x.c], .agg #[.int .i64 y.s, .int .i64 y.r, .int .i64 y.n, .slice y.a y.l.length y.c]] Wx fun e w' => e = .returned (.bool true) ∧ Below Wx.heap.size Wx w') := by
                  intro Wx hs
                  obtain ⟨s0, s1, s2, s3, s4, s5, s6, s7, s8⟩ := hs
                  have hK := s8
                  exact HSV.out _ hK
                go_region_held3 (fun w' => w'.cell? ⟨gx, i * 4, none⟩ = some (.int .i64 x.s) ∧ w'.cell? ⟨gx, i * 4 + 1, none⟩ = some (.int .i64 x.r) ∧ w'.cell? ⟨gx, i * 4 + 2, none⟩ = some (.int .i64 x.n) ∧ w'.cell? ⟨gx, i * 4 + 3, none⟩ = some (.slice x.a x.l.length x.c) ∧ w'.cell? ⟨gy, m * 4, none⟩ = some (.int .i64 y.s) ∧ w'.cell? ⟨gy, m * 4 + 1, none⟩ = some (.int .i64 y.r) ∧ w'.cell? ⟨gy, m * 4 + 2, none⟩ = some (.int .i64 y.n) ∧ w'.cell? ⟨gy, m * 4 + 3, none⟩ = some (.slice y.a y.l.length y.c) ∧ Below w8.heap.size w8 w') (first | (exact ⟨z0, z1, z2, z3, y0, y1, y2, y3, below_drewN HBN.out 1⟩) | (refine HhStab.out _ _ hbn ?_; assumption)) (first | (go_at_call 17; refine ((lV.out _ (by assumption))).mono ?_; rintro e wn ⟨rfl, hbn⟩))
                have hS26 : wn.cell? ⟨gx, i * 4, none⟩ = some (.int .i64 x.s) ∧ wn.cell? ⟨gx, i * 4 + 1, none⟩ = some (.int .i64 x.r) ∧ wn.cell? ⟨gx, i * 4 + 2, none⟩ = some (.int .i64 x.n) ∧ wn.cell? ⟨gx, i * 4 + 3, none⟩ = some (.slice x.a x.l.length x.c) ∧ wn.cell? ⟨gy, m * 4, none⟩ = some (.int .i64 y.s) ∧ wn.cell? ⟨gy, m * 4 + 1, none⟩ = some (.int .i64 y.r) ∧ wn.cell? ⟨gy, m * 4 + 2, none⟩ = some (.int .i64 y.n) ∧ wn.cell? ⟨gy, m * 4 + 3, none⟩ = some (.slice y.a y.l.length y.c) ∧ Below w8.heap.size w8 wn := by assumption
                have HB26 := Lib.hid hS26.2.2.2.2.2.2.2.2
                clear hS26
                go_wp2_with fail
                go_roundw
                case rel => exact ⟨m + 1, by omega, by go_num, HB26⟩
                case measure => simp [intOf]; omega
          · obtain rfl : m = ys.length := by omega
            go_wp2_with fail
            go_loopw [11] (fun i wz => ∃ m : Nat, m ≤ xs.length ∧ i = .int .i64 m ∧ Hid (Below w8.heap.size w8 wz)) (fun i _ => xs.length - (intOf i).toNat)
            case atStart => exact ⟨0, Nat.zero_le _, rfl, HBZ⟩
            case round =>
              obtain ⟨wo2, rfl⟩ : ∃ wo2 : World, wo2 = wr := ⟨_, rfl⟩
              obtain ⟨m, hm, rfl, hBz⟩ := hrel
              clear HBZ
              have HBZ := hBz
              clear hBz
              by_cases hml : m < xs.length
              · obtain ⟨gx, c9, e9, hgx, hcap9, q0, q1, q2, q3⟩ := (HRX.out.below HBZ.out).cells hml
                simp only [Value.slice.injEq, true_and] at e9
                obtain ⟨rfl, rfl⟩ := e9
                have hpl : xs[m].s < S1.A.first ∨ ∃ y ∈ S1.A.vs, y.s = xs[m].s := HH1.out.all (lv xs[m]) (by rw [← HXS.out]; exact List.mem_map_of_mem (List.getElem_mem hml))
                have HXC := Lib.hid (fun (wx : World) (hb : Below w8.heap.size w8 wx) => (HRX.out.below hb).cells hml)
                obtain ⟨x, hx⟩ : ∃ x, x = xs[m] := ⟨_, rfl⟩
                rw [← hx] at q0 q1 q2 q3 hpl HXC
                have HPL := Lib.hid hpl
                clear hx hpl hcap9
                go_wp2_with fail
                have hStab : ∀ Wx Wy : World, Below Wx.heap.size Wx Wy → (Wx.cell? ⟨gx, m * 4, none⟩ = some (.int .i64 x.s) ∧ Below w8.heap.size w8 Wx) → (Wy.cell? ⟨gx, m * 4, none⟩ = some (.int .i64 x.s) ∧ Below w8.heap.size w8 Wy) := by
                  intro Wx Wy kk hs
                  obtain ⟨s0, s1⟩ := hs
                  exact ⟨cell_step s0 kk, below_step s1 kk⟩
                have HhStab := Lib.hid hStab
                clear hStab
                have lF : Hid (∀ Wx : World, (Wx.cell? ⟨gx, m * 4, none⟩ = some (.int .i64 x.s) ∧ Below w8.heap.size w8 Wx) → Calls Try.prog 18 #[.pointer (some ⟨b, 0, none⟩)] Wx fun e w' => e = .returned (.int .i64 S1.A.first) ∧ Below Wx.heap.size Wx w') := by
                  intro Wx hs
                  obtain ⟨s0, s1⟩ := hs
                  have hK := s1
                  exact (first_b _ _ _ _ _ (HBE8.out.acc.below hK))
                go_region_held3 (fun w' => w'.cell? ⟨gx, m * 4, none⟩ = some (.int .i64 x.s) ∧ Below w8.heap.size w8 w') (first | (exact ⟨q0, below_drewN HBZ.out 1⟩) | (refine HhStab.out _ _ hbn ?_; assumption)) (first | (go_at_call 18; refine ((lF.out _ (by assumption))).mono ?_; rintro e wn ⟨rfl, hbn⟩))
                have hS25 : wn.cell? ⟨gx, m * 4, none⟩ = some (.int .i64 x.s) ∧ Below w8.heap.size w8 wn := by assumption
                have HB25 := Lib.hid hS25.2
                clear hS25
                go_wp2_with fail
                go_loopw [12, 13] (fun t i wz => ∃ n : Nat, n ≤ ys.length ∧ i = .int .i64 n ∧ Hid (t = .bool (decide (x.s < S1.A.first) || hasS x.s (ys.take n))) ∧ Hid (Below w8.heap.size w8 wz)) (fun _ i _ => ys.length - (intOf i).toNat)
                case atStart => exact ⟨0, Nat.zero_le _, rfl, (by simp [Hid, hasS] : Hid (Value.bool (decide (x.s < S1.A.first)) = .bool (decide (x.s < S1.A.first) || hasS x.s (ys.take 0)))), HB25⟩
                case round =>
                  obtain ⟨wo3, rfl⟩ : ∃ wo3 : World, wo3 = wr := ⟨_, rfl⟩
                  obtain ⟨n, hn, rfl, hT, HBN⟩ := hrel
                  by_cases hnl : n < ys.length
                  · have HTS := Lib.hid (has_snoc x.s ys n hnl)
                    obtain ⟨gy, c7, e7, hgy, hcap7, y0, y1, y2, y3⟩ := (HRY.out.below HBN.out).cells hnl
                    simp only [Value.slice.injEq, true_and] at e7
                    obtain ⟨rfl, rfl⟩ := e7
                    obtain ⟨gx', c8, e8, hgx', -, x0, x1, x2, x3⟩ := HXC.out wo3 HBN.out
                    simp only [Value.slice.injEq, true_and, Option.some.injEq, Addr.mk.injEq, and_true] at e8
                    obtain ⟨rfl, rfl⟩ := e8
                    obtain ⟨y, hy⟩ : ∃ y, y = ys[n] := ⟨_, rfl⟩
                    rw [← hy] at y0 y1 y2 y3 HTS
                    obtain ⟨t, ht⟩ : ∃ t, t = (decide (x.s < S1.A.first) || hasS x.s (ys.take n)) := ⟨_, rfl⟩
                    have hT' := hT.out
                    rw [← ht] at hT'
                    subst hT'
                    have HTN : Hid ((decide (x.s < S1.A.first) || hasS x.s (ys.take (n + 1))) = (t || y.s == x.s)) := by
                      show _ = _
                      rw [HTS.out, ht, Bool.or_assoc]
                    clear hy ht hT HTS hcap7
                    cases t with
                    | true =>
                      go_wp2_with fail
                      go_quiet (fail)
                      go_wp2_with fail
                      go_roundw
                      case rel => exact ⟨n + 1, by omega, by go_num, (by show _ = _; rw [HTN.out]; simp), below_drewN HBN.out _⟩
                      case measure => simp [intOf]; omega
                    | false =>
                      obtain ⟨q, hq⟩ : ∃ q, q = (y.s == x.s) := ⟨_, rfl⟩
                      have e1 : (y.s == x.s) = q := hq.symm
                      have HQ := Lib.hid hq
                      clear hq
                      cases q with
                      | true =>
                        go_wp2_with fail
                        go_quiet (fail)
                        go_wp2_with fail
                        go_roundw
                        case rel => exact ⟨n + 1, by omega, by go_num, (by show _ = _; rw [HTN.out, ← HQ.out]; simp), below_drewN HBN.out _⟩
                        case measure => simp [intOf]; omega
                      | false =>
                        go_wp2_with fail
                        go_quiet (fail)
                        go_wp2_with fail
                        go_roundw
                        case rel => exact ⟨n + 1, by omega, by go_num, (by show _ = _; rw [HTN.out, ← HQ.out]; simp), below_drewN HBN.out _⟩
                        case measure => simp [intOf]; omega
                  · obtain rfl : n = ys.length := by omega
                    have hyes : (decide (x.s < S1.A.first) || hasS x.s (ys.take ys.length)) = true := by
                      rw [List.take_length]
                      exact has_yes (by rw [HYS.out]; exact HPL.out)
                    have hT' := hT.out
                    rw [hyes] at hT'
                    subst hT'
                    clear hyes hT
                    go_wp2_with fail
                    go_roundw
                    case rel => exact ⟨m + 1, by omega, by go_num, HBN⟩
                    case measure => simp [intOf]; omega
              · obtain rfl : m = xs.length := by omega
                have HEND := Lib.hid (HBE8.out.old HBZ.out)
                rw [HXS.out] at *
                have HL8 := HREL.out _ _ _ HEND
                go_wp2_with fail
                go_roundw
                case rel => exact ⟨k + 1, by omega, by go_num, HL8.1, HL8.2⟩
                case measure => simp [intOf]; omega
    · obtain rfl : k = l.length := by omega
      go_wp2_with fail
      go_ret
      exact ⟨rfl, hL.out.below⟩

theorem lawWalk {H : Type} (enc : TypeId × Value → H) : LawWalk enc Try.prog 3 Try.f3 (fun _ => True) := by
  intro W base args ds p hval hA hsz _
  rw [Try.params3] at hA hval hsz
  obtain ⟨v0, vs0, d0, ds0, p0, q0, hargs, rfl, rfl, h0, r0⟩ := trodAll_cons hA
  obtain ⟨rfl, rfl, rfl⟩ := trodAll_nil r0
  obtain rfl : args = #[v0] := by cases args; simp_all
  obtain ⟨a0, l0, cap0, es0, sp0, rfl, hlc0, hcm0, hn0, hat0, hd0, hel0, hsp0, hgood0⟩ := open_slice_gen 5 ocells (fun o d => GoodO W o ∧ DataO o d) Try.underlying22 (by kernel_rfl) (by omega) (fun n cs y _ h => elem_op n cs y h) (hval 0 22 v0 rfl rfl) h0
  have hlen : l0.length * 48 ≤ 140737488355328 := by
    rcases hd0 with ⟨_, rfl, _, _⟩ | rfl
    · simp
    · have := sized_slice hsz (j := 0) rfl rfl Try.underlying22
      have e1 : Try.prog.bytesOf 31 = 56 := by kernel_rfl
      rw [e1] at this
      simp only [reachBytes] at this
      omega
  exact last_ok W a0 l0 cap0 hlen hat0 (fun k hk => (hgood0 k hk (by omega)).1)

theorem own : ownKnob Try.prog.godebug = none := by kernel_rfl
theorem laidOut : laidOutB Try.prog = true := by kernel_rfl

set_option maxRecDepth 100000 in
theorem lifted (os : Os) (started : os.Started) (H : Type) (enc : TypeId × Value → H) :
    ReturnsInHanded {} Try.checked os 3 .any (Rows.acceptLastSpec.pre6 enc Try.prog Try.f3 Rows.acceptLastRow.domain false) (Rows.acceptLastSpec.post enc Try.prog Try.f3 false true false false) := by
  refine returnsInHanded_of_change_sized (C := Try.checked) own started (by kernel_rfl) Try.func3
    (ChangeSpec.witness6 (enc := enc) (C := Try.checked) false ⟨#[], #[.slice none 0 0], []⟩ 8 (by kernel_rfl) (by kernel_rfl) (by kernel_rfl) (by kernel_rfl)) ?_
  intro W base args ds gs before hval hW hcnd hsz _
  exact law_post (C := Try.checked) laidOut (fun ds h => by match ds, h with | [_], _ => rfl) 4 rfl Try.underlying4 rfl (by kernel_rfl) hval hW hsz trivial (lawWalk enc)

theorem proved : Rows.AcceptLastSaid :=
  OpenClaim.holds_of_wide 3 Try.f3 rfl rfl rfl rfl rfl rfl rfl ⟨rfl, rfl, rfl, rfl, rfl⟩ rfl rfl rfl rfl rfl (by kernel_rfl) Try.func3 (by kernel_rfl)
    (of_decide_eq_true (by kernel_rfl)) (by unfold Func.isWrapper; first | (rw [if_pos (by decide +kernel)]; kernel_rfl) | (rw [if_neg (by decide +kernel)]; exact ⟨rfl, rfl⟩))
    (fun os started H enc _ => lifted os started H enc)
#print axioms proved
end Go.Proofs.Ytafjmedjaepimaa.acceptLast
