/-
  ChooseOrder: in which order promises stand plays no part; Open tells each slot from the one it is asked from on, without a gap.
-/
import Derived.Test.YtodoncmielfbeaaChT
import Derived.Test.YtodoncmielfbeaaChecked
import Derived.Test.YtodoncmielfbeaaRows
namespace Go.Proofs.Ytodoncmielfbeaa.chooseOrder
open Go.ChangeShapes Go.WideShapes Go.ChangeAt Go.RowKit Go.Joins
open Go.Proofs.Ytodoncmielfbeaa.kit Go.Proofs.Ytodoncmielfbeaa.mapkit Go.Proofs.Ytodoncmielfbeaa.byt Go.Proofs.Ytodoncmielfbeaa.own Go.Proofs.Ytodoncmielfbeaa.accd Go.Proofs.Ytodoncmielfbeaa.chd Go.Proofs.Ytodoncmielfbeaa.chb Go.Proofs.Ytodoncmielfbeaa.chr Go.Proofs.Ytodoncmielfbeaa.chrr Go.Proofs.Ytodoncmielfbeaa.che Go.Proofs.Ytodoncmielfbeaa.chf Go.Proofs.Ytodoncmielfbeaa.chq Go.Proofs.Ytodoncmielfbeaa.cho Go.Proofs.Ytodoncmielfbeaa.chc Go.Proofs.Ytodoncmielfbeaa.chv Go.Proofs.Ytodoncmielfbeaa.chop Go.Proofs.Ytodoncmielfbeaa.chch Go.Proofs.Ytodoncmielfbeaa.chw Go.Proofs.Ytodoncmielfbeaa.cha Go.Proofs.Ytodoncmielfbeaa.cht
set_option linter.unusedVariables false
set_option linter.unusedSimpArgs false
set_option maxHeartbeats 4000000
set_option maxRecDepth 100000

theorem rev_row {w : World} {a : Option Addr} {l : List Pt} (h : RowP w a l) {base c : Nat} {ab : Option Addr} (hr : w.ownsRow base 36 2 (.slice ab l.reverse.length c) l.reverse.length (pcells l.reverse)) : RowP w ab l.reverse :=
  ⟨own_rows pcells_len hr, fun p hp => h.good p (List.mem_reverse.1 hp), by rw [List.length_reverse]; exact h.len⟩
theorem order_ok (w : World) (nodes from_ : Int) (a : Option Addr) (c : Nat) (l : List Pt) (h : RowP w a l) :
    Calls Try.prog 5 #[.int .i64 nodes, .int .i64 from_, .slice a l.length c] w fun e w' => e = .returned (.bool true) ∧ Below w.heap.size w w' := by
  obtain ⟨j0, hj, hy0, hy1, hy2⟩ := info_parts infoProm
  have HL := Lib.hid (fun (wr : World) (hb : Below w.heap.size w wr) => h.below hb)
  have hll := h.len
  have HOL := Lib.hid (openL_len nodes from_ (l.map pv))
  have HCL := Lib.hid (chosenA_len nodes l)
  have HA := Lib.hid (awake_ok w)
  have hwl : IntKind.i64.wrap ((l.length : Int) - 1) = (l.length : Int) - 1 := IntWalk.i64_in _ (by omega)
  clear h
  go_enter Try.func5, Try.ntmps5
  go_wp2_with fail
  refine HA.out.mono ?_; rintro e w1 ⟨rfl, hb1⟩
  have HB1 := Lib.hid hb1
  clear hb1 HA
  go_wp2_with fail
  go_loopw [7, 8] (fun o i wr => ∃ (k : Nat) (ab : Option Addr) (cb : Nat), k ≤ l.length ∧ i = .int .i64 ((l.length : Int) - 1 - k) ∧ o = .slice ab k cb ∧ Hid (wr.ownsRow w.heap.size 36 2 (.slice ab k cb) k (pcells (l.reverse.take k))) ∧ Hid (Below w.heap.size w wr)) (fun _ i _ => (RowKit.intOf i + 1).toNat)
  case atStart => exact ⟨0, none, 0, Nat.zero_le _, by simp, rfl, World.ownsRow_nil _ _ _ _, HB1.out⟩
  case round =>
    obtain ⟨k, ab, cb, hk, rfl, rfl, HO, HB⟩ := hrel
    by_cases hlt : k < l.length
    · obtain ⟨i, hi⟩ : ∃ i : Nat, i = l.length - 1 - k := ⟨_, rfl⟩
      have hii : (l.length : Int) - 1 - (k : Int) = (i : Int) := by omega
      have hil : i < l.length := by omega
      obtain ⟨g, off, rfl, hgz, x0, x1⟩ := (HL.out wr HB.out).cells i hil
      have hrv : l.reverse.take (k + 1) = l.reverse.take k ++ [l[i]] := by
        rw [List.take_succ_eq_append_getElem (by rw [List.length_reverse]; exact hlt), List.getElem_reverse]
        subst hi; try rfl
      obtain ⟨p, hp⟩ : ∃ p, p = l[i] := ⟨_, rfl⟩
      rw [← hp] at x0 x1 hrv
      have hpc : pcells (l.reverse.take (k + 1)) = pcells (l.reverse.take k) ++ p.cells := by rw [hrv, pcells_snoc]
      have HPC := Lib.hid hpc
      have HII := Lib.hid hii
      have hsz := HB.out.size
      have hlm : l.length ≤ 9223372036854775807 := by omega
      rw [hii]
      clear hp hrv hpc hii hi
      go_wp2_with (at_builtin; refine wpl_append rfl (.tmp 23) (.tmp 28) 22 rfl w.heap.size 36 j0 _ 2 32 Try.underlying22 hj hy0 hy1 hy2 rfl (by decide) _ k (pcells (l.reverse.take k)) rfl (HO.out.alloc _) (some ⟨wr.heap.size, 0, none⟩) 1 1 p.cells rfl (by simp) rfl (lie_new2' _ _ _ _) (by simp [Pt.cells, Value.oneCell']) (by unfold maxLen; omega) (by omega) (by rw [size_new]; omega) ?_)
      intro v8 w8 hown hgr
      obtain ⟨a8, c8, rfl⟩ := own_shape hown
      rw [← HPC.out] at hown
      have HB8 : Hid (Below w.heap.size w w8) := (below_step HB.out (below_new1 wr _)).grown hgr (by rw [size_new]; omega) (fun j hj => (HO.out.lt j hj).1)
      have HO8 := Lib.hid hown
      clear hown hgr
      go_wp2_with fail
      go_roundw
      case rel => exact ⟨k + 1, a8, c8, by omega, by have := HII.out; go_num, rfl, HO8, HB8⟩
      case measure => simp [RowKit.intOf]
    · obtain rfl : k = l.length := by omega
      have hneg : (l.length : Int) - 1 - (l.length : Int) = -1 := by omega
      rw [hneg]
      have hrl : l.reverse.take l.length = l.reverse := List.take_of_length_le (by rw [List.length_reverse]; exact Nat.le_refl _)
      have hrow : wr.ownsRow w.heap.size 36 2 (.slice ab l.reverse.length cb) l.reverse.length (pcells l.reverse) := by
        have := HO.out
        rw [hrl] at this
        rw [List.length_reverse]; exact this
      have hpm : (l.map pv).Perm (l.reverse.map pv) := (List.reverse_perm l).symm.map pv
      have hRB := rev_row (HL.out wr HB.out) hrow
      have HRB := Lib.hid (fun (wx : World) (hb : Below wr.heap.size wr wx) => hRB.below hb)
      have HRL : Hid (l.reverse.length = l.length) := List.length_reverse
      have hc1 := own_ok wr a c l (HL.out wr HB.out)
      have HC1 := Lib.hid hc1
      have HPM := Lib.hid hpm
      clear hneg hrl hrow hpm hRB hc1 HO
      go_wp2_with fail
      refine HC1.out.mono ?_; rintro e w2 ⟨a2, c2, qs, rfl, hq, hrow2, hb2⟩
      have hql : qs.length = l.length := by have h := congrArg List.length hq; rw [List.length_map, List.length_map] at h; exact h
      have HX := Lib.hid (open_ok w2 nodes from_ a2 c2 qs (hrow2.rowP (by omega)))
      rw [hq] at HX
      have HB2 := Lib.hid hb2
      clear hq hrow2 hb2 hql HC1
      go_wp2_with fail
      refine HX.out.mono ?_; rintro e w3 ⟨ax, cx, ex, rfl, hox, hb3⟩
      have HB3 := Lib.hid (below_step HB2.out hb3)
      have HOX := Lib.hid hox
      have HC4 := Lib.hid (own_ok w3 ab cb l.reverse (HRB.out w3 (below_step HB2.out hb3)))
      rw [HRL.out] at HC4
      clear hox hb3 HX
      go_wp2_with fail
      refine HC4.out.mono ?_; rintro e w4 ⟨a4, c4, qb, rfl, hqb, hrow4, hb4⟩
      have hqbl : qb.length = l.length := by have h := congrArg List.length hqb; rw [List.length_map, List.length_map, List.length_reverse] at h; exact h
      have HY := Lib.hid (open_ok w4 nodes from_ a4 c4 qb (hrow4.rowP (by omega)))
      rw [hqb] at HY
      have HB4 := Lib.hid (below_step HB3.out hb4)
      have HOX4 := Lib.hid (HOX.out.below hb4)
      clear hqb hrow4 hb4 hqbl HC4 HOX
      go_wp2_with fail
      refine HY.out.mono ?_; rintro e w5 ⟨ay, cy, ey, rfl, hoy, hb5⟩
      rw [← openL_perm HPM.out] at hoy
      rw [← openE_perm HPM.out]
      have HB5 := Lib.hid (below_step HB4.out hb5)
      have HOX5 := Lib.hid (HOX4.out.below hb5)
      have HOY := Lib.hid hoy
      have HE := Lib.hid (entries_eq w5 ax ay cx cy ex ey (out_row HOX5.out HOL.out) (out_row hoy HOL.out) (HOX5.out.data.trans hoy.data.symm))
      clear hoy hb5 HY HOX4
      obtain ⟨er, her⟩ : ∃ er, er = openE nodes from_ (l.map pv) := ⟨_, rfl⟩
      have HER := Lib.hid her
      rw [← her]
      clear her
      go_wp2_with fail
      refine HE.out.mono ?_; rintro e w6 ⟨rfl, hb6⟩
      have HB6 := Lib.hid (below_step HB5.out hb6)
      have HOX6 := Lib.hid (HOX5.out.below hb6)
      have HC6 := Lib.hid (own_ok w6 a c l (HL.out w6 (below_step HB.out HB6.out)))
      clear hb6 HE HOX5
      go_wp2_with fail
      refine HC6.out.mono ?_; rintro e w7 ⟨a7, c7, q7, rfl, hq7, hrow7, hb7⟩
      have hql : q7.length = l.length := by have h := congrArg List.length hq7; rw [List.length_map, List.length_map] at h; exact h
      have HX := Lib.hid (chosen_ok w7 nodes a7 c7 q7 (hrow7.rowP (by omega)))
      rw [hq7] at HX
      have HB7 := Lib.hid (below_step HB6.out hb7)
      have HOX7 := Lib.hid (HOX6.out.below hb7)
      clear hq7 hrow7 hb7 hql HC6 HOX6
      go_wp2_with fail
      refine HX.out.mono ?_; rintro e w8 ⟨ac, cc, ec, rfl, hoc, hb8⟩
      have HB8 := Lib.hid (below_step HB7.out hb8)
      have HOX8 := Lib.hid (HOX7.out.below hb8)
      have HOC := Lib.hid hoc
      have HC8 := Lib.hid (own_ok w8 ab cb l.reverse (HRB.out w8 (below_step HB7.out hb8)))
      rw [HRL.out] at HC8
      clear hoc hb8 HX HOX7
      go_wp2_with fail
      refine HC8.out.mono ?_; rintro e w9 ⟨a9, c9, q9, rfl, hq9, hrow9, hb9⟩
      have hql : q9.length = l.length := by have h := congrArg List.length hq9; rw [List.length_map, List.length_map, List.length_reverse] at h; exact h
      have HX := Lib.hid (chosen_ok w9 nodes a9 c9 q9 (hrow9.rowP (by omega)))
      rw [hq9] at HX
      have HB9 := Lib.hid (below_step HB8.out hb9)
      have HOX9 := Lib.hid (HOX8.out.below hb9)
      have HOC9 := Lib.hid (HOC.out.below hb9)
      clear hq9 hrow9 hb9 hql HC8 HOX8 HOC
      go_wp2_with fail
      refine HX.out.mono ?_; rintro e w10 ⟨ad, cd, ed, rfl, hod, hb10⟩
      rw [← chosenA_perm HPM.out] at hod
      have HB10 := Lib.hid (below_step HB9.out hb10)
      have HOX10 := Lib.hid (HOX9.out.below hb10)
      have HE := Lib.hid (entries_eq w10 ac ad cc cd ec ed (out_row (HOC9.out.below hb10) HCL.out) (out_row hod HCL.out) ((HOC9.out.data).trans hod.data.symm))
      clear hod hb10 HX HOX9 HOC9
      go_wp2_with fail
      refine HE.out.mono ?_; rintro e w11 ⟨rfl, hb11⟩
      have HB11 := Lib.hid (below_step HB.out (below_step HB10.out hb11))
      have HOX11 := Lib.hid (HOX10.out.below hb11)
      have hex : ex.length ≤ 1024 := by rw [HOX11.out.size]; exact HOL.out
      have HRE := Lib.hid (out_row HOX11.out HOL.out)
      clear hb11 HE HOX10
      go_wp2_with fail
      go_loop [13] (fun i => ∃ k : Nat, k ≤ ex.length ∧ i = .int .i64 k) (fun i => ex.length - (RowKit.intOf i).toNat)
      case atStart => exact ⟨0, Nat.zero_le _, rfl⟩
      case round =>
        obtain ⟨k, hk, rfl⟩ := hrel
        by_cases hlt2 : k < ex.length
        · obtain ⟨g, off, hax, hgz, x0, -⟩ := HRE.out.cells k hlt2
          have hkd : k < (openL nodes from_ (l.map pv)).length := by rw [← HOX11.out.size]; exact hlt2
          have hsd : ex[k].s = ((openL nodes from_ (l.map pv))[k]).1 := by
            have h1 : (ex.map le)[k]? = (openL nodes from_ (l.map pv))[k]? := by rw [HOX11.out.data]
            rw [List.getElem?_eq_getElem (by rw [List.length_map]; exact hlt2), List.getElem?_eq_getElem hkd, List.getElem_map, Option.some.injEq] at h1
            rw [← h1]; rfl
          have hz : openE nodes from_ (l.map pv) = 0 := by
            by_cases hz : openE nodes from_ (l.map pv) = 0
            · exact hz
            · unfold openL at hkd; rw [if_neg hz] at hkd; simp at hkd
          have hfr := openE_right hz
          have hsv : ex[k].s = from_ + k := by
            rw [hsd]
            have e : openL nodes from_ (l.map pv) = ents (l.map pv) from_ (openN from_ (l.map pv)) := by unfold openL; rw [if_pos hz]
            simp only [e]
            exact ents_get _ _ _ _ _
          rw [hsv] at x0
          have hwr : IntKind.i64.wrap (from_ + (k : Int)) = from_ + (k : Int) := IntWalk.i64_in _ (by omega)
          have hxm : ex.length ≤ 9223372036854775807 := by omega
          obtain rfl : ax = some ⟨g, off, none⟩ := hax
          clear hkd hsd hz hfr hsv
          go_wp2_with fail
          go_round
          case rel => exact ⟨k + 1, by omega, by go_num⟩
          case measure => simp [RowKit.intOf]; omega
        · obtain rfl : k = ex.length := by omega
          by_cases hz : er = 0
          · subst hz
            go_wp2_with fail
            go_ret
            exact ⟨rfl, HB11.out⟩
          · have hx0 : ex.length = 0 := by
              rw [HOX11.out.size]
              unfold openL
              rw [if_neg (by rw [← HER.out]; exact hz)]; rfl
            have t1 : (er == 0) = false := by simpa using hz
            have t2 : ((ex.length : Int) == 0) = true := by simp [hx0]
            have HX0 := Lib.hid hx0
            clear hx0 hz
            go_wp2_with fail
            go_ret
            exact ⟨by simp [HX0.out], HB11.out⟩
theorem lawWalk {H : Type} (enc : TypeId × Value → H) : LawWalk enc Try.prog 5 Try.f5 (fun _ => True) := by
  intro W base args ds p hval hA hsz _
  rw [Try.params5] at hA hval hsz
  obtain ⟨v0, vs0, d0, ds0, p0, q0, hargs, rfl, rfl, h0, r0⟩ := trodAll_cons hA
  obtain ⟨v1, vs1, d1, ds1, p1, q1, rfl, rfl, rfl, h1, r1⟩ := trodAll_cons r0
  obtain ⟨v2, vs2, d2, ds2, p2, q2, rfl, rfl, rfl, h2, r2⟩ := trodAll_cons r1
  obtain ⟨rfl, rfl, rfl⟩ := trodAll_nil r2
  obtain rfl : args = #[v0, v1, v2] := Array.toList_inj.1 hargs
  obtain ⟨n0, rfl, rfl, rfl, w0⟩ := open_int Try.underlying3 (hval 0 3 v0 rfl rfl) h0
  obtain ⟨n1, rfl, rfl, rfl, w1⟩ := open_int Try.underlying3 (hval 1 3 v1 rfl rfl) h1
  obtain ⟨a2, l2, c2, rfl, hP2⟩ := chl.open_prs (j := 2) (hval 2 22 v2 rfl rfl) h2 hsz rfl rfl
  exact order_ok W n0 n1 a2 c2 l2 hP2

theorem own : ownKnob Try.prog.godebug = none := by kernel_rfl
theorem laidOut : laidOutB Try.prog = true := by kernel_rfl

set_option maxRecDepth 100000 in
theorem lifted (os : Os) (started : os.Started) (H : Type) (enc : TypeId × Value → H) :
    ReturnsInHanded {} Try.checked os 5 .any (Rows.chooseOrderSpec.pre6 enc Try.prog Try.f5 Rows.chooseOrderRow.domain false) (Rows.chooseOrderSpec.post enc Try.prog Try.f5 false true false false) := by
  refine returnsInHanded_of_change_sized (C := Try.checked) own started (by kernel_rfl) Try.func5
    (ChangeSpec.witness6 (enc := enc) (C := Try.checked) false ⟨#[], #[.int .i64 0, .int .i64 0, .slice none 0 0], []⟩ 8 (by kernel_rfl) (by kernel_rfl) (by kernel_rfl) (by kernel_rfl)) ?_
  intro W base args ds gs before hval hW hcnd hsz _
  exact law_post (C := Try.checked) laidOut (fun ds h => by match ds, h with | [_, _, _], _ => rfl) 4 rfl Try.underlying4 rfl (by kernel_rfl) hval hW hsz trivial (lawWalk enc)

theorem proved : Rows.ChooseOrderSaid :=
  OpenClaim.holds_of_wide 5 Try.f5 rfl rfl rfl rfl rfl rfl rfl ⟨rfl, rfl, rfl, rfl, rfl⟩ rfl rfl rfl rfl rfl (by kernel_rfl) Try.func5 (by kernel_rfl)
    (of_decide_eq_true (by kernel_rfl)) (by unfold Func.isWrapper; first | (rw [if_pos (by decide +kernel)]; kernel_rfl) | (rw [if_neg (by decide +kernel)]; exact ⟨rfl, rfl⟩))
    (fun os started H enc _ => lifted os started H enc)
#print axioms proved
end Go.Proofs.Ytodoncmielfbeaa.chooseOrder

