/-
  ClockForks: a fork is alike, and neither shows what is done to the other; names that were told stay.
-/
import Derived.Test.YtejjnhgiijhglaaClkPl
import Derived.Test.YtejjnhgiijhglaaClkFk
import Derived.Test.YtejjnhgiijhglaaClkNm
import Derived.Test.YtejjnhgiijhglaaChecked
import Derived.Test.YtejjnhgiijhglaaRows
namespace Go.Proofs.Ytejjnhgiijhglaa.clockForks
open Go.ChangeShapes Go.WideShapes Go.ChangeAt Go.RowKit Go.Joins Go.ChangeMaps
open Go.Proofs.Ytejjnhgiijhglaa.kit Go.Proofs.Ytejjnhgiijhglaa.mapkit Go.Proofs.Ytejjnhgiijhglaa.own Go.Proofs.Ytejjnhgiijhglaa.heapp Go.Proofs.Ytejjnhgiijhglaa.clkp Go.Proofs.Ytejjnhgiijhglaa.clks Go.Proofs.Ytejjnhgiijhglaa.clkt Go.Proofs.Ytejjnhgiijhglaa.clkr Go.Proofs.Ytejjnhgiijhglaa.clknm Go.Proofs.Ytejjnhgiijhglaa.clkfk Go.Proofs.Ytejjnhgiijhglaa.clkpl
set_option linter.unusedVariables false
set_option linter.unusedSimpArgs false
set_option maxHeartbeats 1000000
set_option maxRecDepth 100000

def nms (A : CkS) : List ByteArray := A.s.map T3.nm
theorem nms_len (A : CkS) : (nms A).length = A.s.length := List.length_map _
theorem names_nms (A : CkS) : names A.s = (nms A).map Value.string := by unfold names nms; rw [List.map_map]; rfl
/-- Names, in the words of this law. -/
theorem nm_ok (w : World) (base cb mb : Nat) (A : CkS) (h : ClkIs w base cb mb A) (ns : List ByteArray) (hn : ns = nms A) :
    Calls Try.prog 17 #[.pointer (some ⟨cb, 0, none⟩)] w fun e w' => ∃ (a : Option Addr) (c : Nat), e = .returned (.slice a ns.length c) ∧
      w'.ownsRow w.heap.size 9 1 (.slice a ns.length c) ns.length (ns.map Value.string) ∧ Below w.heap.size w w' := by
  have h1 := names_ok w base cb mb A h
  rw [names_nms, ← nms_len, ← hn] at h1
  exact h1

theorem forks_ok (w : World) (a : Option Addr) (l : List OpC) (cap : Nat) (hl : l.length ≤ 4398046511103) (hat : RowsAt w a 3 (l.map ocells)) (hok : ∀ k (hk : k < l.length), (l[k]).ok)
    (b : Option Addr) (m : List OpC) (cap2 : Nat) (hml : m.length ≤ 4398046511103) (hbt : RowsAt w b 3 (m.map ocells)) (hmk : ∀ k (hk : k < m.length), (m[k]).ok) :
    Calls Try.prog 6 #[.slice a l.length cap, .slice b m.length cap2] w fun e w' => e = .returned (.bool true) ∧ Below w.heap.size w w' := by
  have HRAN := Lib.hid (ran_ok w a l cap hl hat hok)
  have hG := good_st l good_start
  rw [Nat.zero_add] at hG
  obtain ⟨A, hA⟩ : ∃ A, A = stC clkp.start l := ⟨_, rfl⟩
  rw [← hA] at HRAN hG
  have HR := Lib.hid (fun (wr : World) (hb : Below w.heap.size w wr) k hk => row_op (hbt.below hb) k hk)
  have HOKO := Lib.hid hmk
  have HG := Lib.hid hG
  clear hat hok hA hG hbt hmk
  go_enter Try.func6, Try.ntmps6
  go_wp2_with fail
  refine HRAN.out.mono ?_; rintro e w1 ⟨cb, mb, rfl, h1, hb1⟩
  have H1 := Lib.hid h1
  have HB1 := Lib.hid hb1
  clear h1 hb1 HRAN
  go_wp2_with fail
  refine (awake_ok w1).mono ?_; rintro e w2 ⟨rfl, hb2⟩
  have H2 := Lib.hid (H1.out.below hb2)
  have HB2 := Lib.hid (below_step HB1.out hb2)
  have hws : w.heap.size ≤ w2.heap.size := HB2.out.size
  clear hb2 H1 HB1
  go_wp2_with fail
  refine (fork_ok w2 _ cb mb A H2.out).mono ?_; rintro e w3 ⟨fb, fm, rfl, hF3, hb3⟩
  obtain ⟨ns, hns⟩ : ∃ x, x = nms A := ⟨_, rfl⟩
  have hn64 : ns.length ≤ 64 := by rw [hns, nms_len]; exact H2.out.ok.len
  have HNS := Lib.hid hns
  have HC : Hid (∀ wz : World, Below w2.heap.size w2 wz → ClkIs wz w.heap.size cb mb A) := fun wz hz => H2.out.below hz
  have HN4 := Lib.hid (nm_ok w3 _ cb mb A (HC.out w3 hb3) ns hns)
  have HF3 := Lib.hid hF3
  have HB3 := Lib.hid hb3
  have hs3 : w2.heap.size ≤ w3.heap.size := hb3.size
  clear hF3 hb3 hns H2
  go_wp2_with fail
  refine HN4.out.mono ?_; rintro e w4 ⟨na, nc, rfl, hrow, hb4⟩
  have HROW4 := Lib.hid hrow
  have HB4 := Lib.hid (below_step HB3.out hb4)
  have HF4 := Lib.hid (HF3.out.below hb4)
  obtain ⟨nw, hnw⟩ : ∃ x, x = A.now := ⟨_, rfl⟩
  have HNOW : Hid (∀ wz : World, Below w2.heap.size w2 wz → Calls Try.prog 10 #[.pointer (some ⟨cb, 0, none⟩)] wz fun e w' => e = .returned (.int .i64 nw) ∧ wz = w') := fun wz hz => by rw [hnw]; exact now_ok wz _ cb mb A (HC.out wz hz)
  have HNF := Lib.hid (now_ok w4 _ fb fm A HF4.out)
  rw [← hnw] at HNF
  have HN5 := Lib.hid (nm_ok w4 _ fb fm A HF4.out ns HNS.out)
  clear hrow hb4 HN4 HF3 hnw
  go_wp2_with fail
  refine HNF.out.mono ?_; rintro e w5 ⟨rfl, rfl⟩
  go_wp2_with fail
  refine (HNOW.out w4 HB4.out).mono ?_; rintro e w5 ⟨rfl, rfl⟩
  go_wp2_with fail
  refine HN5.out.mono ?_; rintro e w5 ⟨ma, mc, rfl, hrow5, hb5⟩
  have HPL := Lib.hid (plain_ok w5 _ _ mc nc ma na ns hrow5 (own_below HROW4.out hb5) hn64)
  have HB5 := Lib.hid (below_step HB4.out hb5)
  have HF5 := Lib.hid (HF4.out.below hb5)
  have HR5 := Lib.hid (own_below HROW4.out hb5)
  clear hrow5 hb5 HN5 HNF HROW4 HF4 HB4
  go_wp2_with fail
  refine HPL.out.mono ?_; rintro e w6 ⟨rfl, hb6⟩
  have HB6 := Lib.hid (below_step HB5.out hb6)
  have HF6 := Lib.hid (HF5.out.below hb6)
  have HR6 := Lib.hid (own_below HR5.out hb6)
  have hs6 : w2.heap.size ≤ w6.heap.size := HB6.out.size
  clear hb6 HPL HB5 HF5 HR5
  go_wp2_with fail
  refine (HNOW.out w6 HB6.out).mono ?_; rintro e w7 ⟨rfl, rfl⟩
  go_wp2_with fail
  go_loopw [9] (fun iv wr => ∃ (k : Nat) (B : CkS), k ≤ m.length ∧ iv = .int .i64 k ∧ Hid (clkr.Good B (l.length + k)) ∧ Hid (ClkIs wr w2.heap.size fb fm B) ∧ Hid (Below w2.heap.size w2 wr) ∧ Hid (wr.ownsRow w3.heap.size 9 1 (.slice na ns.length nc) ns.length (ns.map Value.string))) (fun iv _ => m.length - (intOf iv).toNat)
  case atStart => exact ⟨0, A, Nat.zero_le _, rfl, HG, HF6, HB6, HR6⟩
  case round =>
    obtain ⟨k, B, hk, rfl, HGB, hL, hB, hRN⟩ := hrel
    have HBW := Lib.hid (below_step HB2.out hB.out)
    by_cases hlt : k < m.length
    · obtain ⟨g, off, rfl, hgz, r0, r1, r2⟩ := HR.out wr HBW.out k hlt
      have hO := HOKO.out k hlt
      obtain ⟨o, ho⟩ : ∃ o, o = m[k] := ⟨_, rfl⟩
      rw [← ho] at r0 r1 r2 hO
      have HGO : Hid (clkr.Good (opC B o) (l.length + (k + 1))) := good_op HGB.out o
      have HO := Lib.hid hO
      clear ho hO
      have hsz := hB.out.size
      have HL := hL.out.lt
      have hlom := hL.out.lom
      have HBN : Hid (∀ w4, Keep (CM wr w2.heap.size fm) wr w4 → Below w2.heap.size w2 w4 ∧ w4.ownsRow w3.heap.size 9 1 (.slice na ns.length nc) ns.length (ns.map Value.string)) := fun w4 hk4 => ⟨hB.out.trans (cm_below hk4 hlom hsz), str_keep hRN.out hL.out hk4⟩
      by_cases hk1 : o.kind = 1
      · have HST : Hid (opC B o = stopS B o.nm) := by rw [Hid, opC, if_pos hk1]
        rw [hk1] at r0
        have HCC := Lib.hid (stop_ok wr w2.heap.size fb fm B o.nm hL.out hsz HO.out)
        clear hk1
        go_wp2_with fail
        refine HCC.out.mono ?_; rintro e w8 ⟨rfl, hl4, hk4⟩
        have HB8 := Lib.hid (HBN.out w8 hk4)
        have HL8 := Lib.hid hl4
        clear hk4 hl4 HCC
        go_wp2_with fail
        go_roundw
        case rel => exact ⟨k + 1, opC B o, by omega, by go_num, HGO, by rw [HST.out]; exact HL8, HB8.out.1, HB8.out.2⟩
        case measure => simp [intOf]; omega
      · by_cases hk2 : o.kind = 2
        · have HST : Hid (opC B o = tickS B) := by rw [Hid, opC, if_neg hk1, if_pos hk2]
          rw [hk2] at r0
          have HCC := Lib.hid (tick_ok wr w2.heap.size fb fm B hL.out hsz HGB.out.fut (by have := HGB.out.now; omega))
          clear hk1 hk2
          go_wp2_with fail
          refine HCC.out.mono ?_; rintro e w8 ⟨a4, c4, rfl, -, hl4, hk4⟩
          have HB8 := Lib.hid (HBN.out w8 hk4)
          have HL8 := Lib.hid hl4
          clear hk4 hl4 HCC
          go_wp2_with fail
          go_roundw
          case rel => exact ⟨k + 1, opC B o, by omega, by go_num, HGO, by rw [HST.out]; exact HL8, HB8.out.1, HB8.out.2⟩
          case measure => simp [intOf]; omega
        · have HST : Hid (opC B o = setS B o.nm o.inn) := by rw [Hid, opC, if_neg hk1, if_neg hk2]
          have e1 : (o.kind == 1) = false := by simpa using hk1
          have e2 : (o.kind == 2) = false := by simpa using hk2
          have HCC := Lib.hid (set_ok wr.drew w2.heap.size fb fm B o.nm o.inn (hL.out.below (below_drewN (Below.refl _ wr) 1)) hsz HO.out (by have := HGB.out.turns; omega))
          go_wp2_with fail
          go_still_tail 11, (by kernel_rfl)
          change wpList _ _ _ _ _ wr.drew
          go_wp2_with fail
          refine HCC.out.mono ?_; rintro e w8 ⟨rfl, hl4, hk4⟩
          have hk4' : Keep (CM wr w2.heap.size fm) wr w8 := ⟨hk4.os, hk4.tape, hk4.output, hk4.size, hk4.block⟩
          have HB8 := Lib.hid (HBN.out w8 hk4')
          have HL8 := Lib.hid hl4
          clear hk4 hk4' hl4 HCC
          go_wp2_with fail
          go_roundw
          case rel => exact ⟨k + 1, opC B o, by omega, by go_num, HGO, by rw [HST.out]; exact HL8, HB8.out.1, HB8.out.2⟩
          case measure => simp [intOf]; omega
    · obtain rfl : k = m.length := by omega
      have hzr : w2.heap.size ≤ wr.heap.size := hB.out.size
      have HN8 := Lib.hid (nm_ok wr _ cb mb A (HC.out wr hB.out) ns HNS.out)
      clear HGB hL hk
      go_wp2_with fail
      refine HN8.out.mono ?_; rintro e w8 ⟨oa, oc, rfl, hrow8, hb8⟩
      have HRA := Lib.hid hrow8
      have HR8 := Lib.hid (own_below hRN.out hb8)
      have HB8 := Lib.hid (below_step hB.out hb8)
      have HPL := Lib.hid (plain_ok w8 _ _ nc oc na oa ns HR8.out hrow8 hn64)
      have hzw8 := hb8.size
      clear hrow8 hb8 HN8
      go_wp2_with fail
      refine (HNOW.out w8 HB8.out).mono ?_; rintro e w9 ⟨rfl, rfl⟩
      go_wp2_with fail
      refine HPL.out.mono ?_; rintro e w9 ⟨rfl, hb9⟩
      have HRA9 := Lib.hid (own_below HRA.out hb9)
      have HR9 := Lib.hid (own_below HR8.out hb9)
      have HB9 := Lib.hid (below_step HB8.out hb9)
      have HNE : Hid (∀ g, na = some ⟨g, 0, none⟩ → g < wr.heap.size) := fun g hg => (own_from hRN.out g hg).2
      obtain ⟨wa, hwa⟩ : ∃ wa : World, wa = wr := ⟨_, rfl⟩
      subst hwa
      have hz9 : wa.heap.size ≤ w9.heap.size := Nat.le_trans hzw8 hb9.size
      clear hb9 HPL HRA HR8 HB8
      go_wp2_with fail
      go_loopw [11] (fun iv wr => ∃ (k : Nat) (xs : List Value), k ≤ ns.length ∧ iv = .int .i64 k ∧ Hid (wr.ownsRow wa.heap.size 9 1 (.slice oa ns.length oc) ns.length xs) ∧ Hid (Keep (fun j => wa.heap.size ≤ j) w9 wr)) (fun iv _ => ns.length - (intOf iv).toNat)
      case atStart => exact ⟨0, _, Nat.zero_le _, rfl, HRA9, Keep.refl _ _⟩
      case round =>
        obtain ⟨k, xs, hk, rfl, HX, HK⟩ := hrel
        by_cases hkl : k < ns.length
        · obtain ⟨g, rfl⟩ := own_ptr HX.out (by omega)
          obtain ⟨cur, hcur⟩ := own_heap HX.out g rfl
          have f0 := (kit.blk hcur).2.1 k
          have hxl : xs.length = ns.length := by have := HX.out.1; omega
          have e := World.ownsRow.cellAt HX.out k (by omega)
          rw [List.getElem?_eq_getElem (by omega)] at e
          obtain ⟨v, hv⟩ : ∃ v, v = xs[k]'(by omega) := ⟨_, rfl⟩
          rw [← hv] at e
          have hgf := own_from HX.out g rfl
          have hgz : g < wr.heap.size := hgf.2
          have HX1 : Hid ((wr.setCell ⟨g, k, none⟩ (.string { data := #[103, 111, 110, 101] })).ownsRow wa.heap.size 9 1 (.slice (some ⟨g, 0, none⟩) ns.length oc) ns.length (xs.set k (.string { data := #[103, 111, 110, 101] }))) := clkq.own_set HX.out _
          have HK1 : Hid (Keep (fun j => wa.heap.size ≤ j) w9 (wr.setCell ⟨g, k, none⟩ (.string { data := #[103, 111, 110, 101] }))) := HK.out.setCell (p := ⟨g, k, none⟩) (.inr hgf.1) _
          have HXL := Lib.hid hxl
          clear hcur hv hgf hxl
          go_wp2_with fail
          go_roundw
          case rel => exact ⟨k + 1, _, by omega, by go_num, HX1, HK1⟩
          case measure => simp [intOf]; omega
        · obtain rfl : k = ns.length := by omega
          have hbz : Below w2.heap.size w2 wr := HB9.out.trans (HK.out.below (by omega) (fun j hj hn => by omega))
          have hrz : wr.ownsRow w3.heap.size 9 1 (.slice na ns.length nc) ns.length (ns.map Value.string) := own_kept HR9.out (fun g hg => HK.out.block g (own_from HR9.out g hg).2 (by have := HNE.out g hg; omega))
          have HN10 := Lib.hid (nm_ok wr _ cb mb A (HC.out wr hbz) ns HNS.out)
          have HBZ := Lib.hid hbz
          have HRZ := Lib.hid hrz
          clear hbz hrz hk
          go_wp2_with fail
          refine HN10.out.mono ?_; rintro e w10 ⟨pa, pc, rfl, hrow10, hb10⟩
          have HPL := Lib.hid (plain_ok w10 _ _ pc nc pa na ns hrow10 (own_below HRZ.out hb10) hn64)
          have HB10 := Lib.hid (below_step HBZ.out hb10)
          clear hrow10 hb10 HN10
          go_wp2_with fail
          refine HPL.out.mono ?_; rintro e w11 ⟨rfl, hb11⟩
          have HB11 := Lib.hid (below_step HB2.out (below_step HB10.out hb11))
          clear hb11 HPL
          go_wp2_with fail
          go_ret
          exact ⟨rfl, HB11.out⟩

theorem lawWalk {H : Type} (enc : TypeId × Value → H) : LawWalk enc Try.prog 6 Try.f6 (fun _ => True) := by
  intro W base args ds p hval hA hsz _
  rw [Try.params6] at hA hval hsz
  obtain ⟨v0, vs0, d0, ds0, p0, q0, hargs, rfl, rfl, h0, r0⟩ := trodAll_cons hA
  obtain ⟨v1, vs1, d1, ds1, p1, q1, rfl, rfl, rfl, h1, r1⟩ := trodAll_cons r0
  obtain ⟨rfl, rfl, rfl⟩ := trodAll_nil r1
  obtain rfl : args = #[v0, v1] := Array.toList_inj.1 hargs
  obtain ⟨a, l, cap, es, sp, rfl, hlc, hcm, hn, hat, hd, hel, hsp, hgood⟩ := open_slice_gen 3 ocells (fun o _ => o.ok) Try.underlying22 (by kernel_rfl) (by omega) (fun n cs y _ h => elem_op n cs y h) (hval 0 22 v0 rfl rfl) h0
  obtain ⟨b, m, cap2, es2, sp2, rfl, hlc2, hcm2, hn2, hat2, hd2, hel2, hsp2, hgood2⟩ := open_slice_gen 3 ocells (fun o _ => o.ok) Try.underlying22 (by kernel_rfl) (by omega) (fun n cs y _ h => elem_op n cs y h) (hval 1 22 v1 rfl rfl) h1
  refine forks_ok W a l cap ?_ hat (fun k hk => hgood k hk (by omega)) b m cap2 ?_ hat2 (fun k hk => hgood2 k hk (by omega))
  · rcases hd with ⟨_, rfl, _, _⟩ | rfl
    · exact Nat.zero_le _
    · have := many_c (j := 0) hsz rfl rfl
      omega
  · rcases hd2 with ⟨_, rfl, _, _⟩ | rfl
    · exact Nat.zero_le _
    · have := many_c (j := 1) hsz rfl rfl
      omega

theorem own : ownKnob Try.prog.godebug = none := by kernel_rfl
theorem laidOut : laidOutB Try.prog = true := by kernel_rfl

set_option maxRecDepth 100000 in
theorem lifted (os : Os) (started : os.Started) (H : Type) (enc : TypeId × Value → H) :
    ReturnsInHanded {} Try.checked os 6 .any (Rows.clockForksSpec.pre6 enc Try.prog Try.f6 Rows.clockForksRow.domain false) (Rows.clockForksSpec.post enc Try.prog Try.f6 false true false false) := by
  refine returnsInHanded_of_change_sized (C := Try.checked) own started (by kernel_rfl) Try.func6
    (ChangeSpec.witness6 (enc := enc) (C := Try.checked) false ⟨#[], #[.slice none 0 0, .slice none 0 0], []⟩ 8 (by kernel_rfl) (by kernel_rfl) (by kernel_rfl) (by kernel_rfl)) ?_
  intro W base args ds gs before hval hW hcnd hsz _
  exact law_post (C := Try.checked) laidOut (fun ds h => by match ds, h with | [_, _], _ => rfl) 4 rfl Try.underlying4 rfl (by kernel_rfl) hval hW hsz trivial (lawWalk enc)

theorem proved : Rows.ClockForksSaid :=
  OpenClaim.holds_of_wide 6 Try.f6 rfl rfl rfl rfl rfl rfl rfl ⟨rfl, rfl, rfl, rfl, rfl⟩ rfl rfl rfl rfl rfl (by kernel_rfl) Try.func6 (by kernel_rfl)
    (of_decide_eq_true (by kernel_rfl)) (by unfold Func.isWrapper; first | (rw [if_pos (by decide +kernel)]; kernel_rfl) | (rw [if_neg (by decide +kernel)]; exact ⟨rfl, rfl⟩))
    (fun os started H enc _ => lifted os started H enc)
#print axioms proved
end Go.Proofs.Ytejjnhgiijhglaa.clockForks
