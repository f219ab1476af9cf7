/-
  ChoosePlays: which promises are right, what a new leader proposes by them, and what is chosen by votes: as the document says.
-/
import Derived.Test.YtodoncmielfbeaaChL
import Derived.Test.YtodoncmielfbeaaChecked
import Derived.Test.YtodoncmielfbeaaRows
namespace Go.Proofs.Ytodoncmielfbeaa.choosePlays
open Go.ChangeShapes Go.WideShapes Go.ChangeAt Go.RowKit Go.Joins
open Go.Proofs.Ytodoncmielfbeaa.kit Go.Proofs.Ytodoncmielfbeaa.mapkit Go.Proofs.Ytodoncmielfbeaa.byt Go.Proofs.Ytodoncmielfbeaa.own Go.Proofs.Ytodoncmielfbeaa.accd Go.Proofs.Ytodoncmielfbeaa.chd Go.Proofs.Ytodoncmielfbeaa.chb Go.Proofs.Ytodoncmielfbeaa.chr Go.Proofs.Ytodoncmielfbeaa.chrr Go.Proofs.Ytodoncmielfbeaa.che Go.Proofs.Ytodoncmielfbeaa.chf Go.Proofs.Ytodoncmielfbeaa.chq Go.Proofs.Ytodoncmielfbeaa.cho Go.Proofs.Ytodoncmielfbeaa.chc Go.Proofs.Ytodoncmielfbeaa.chv Go.Proofs.Ytodoncmielfbeaa.chop Go.Proofs.Ytodoncmielfbeaa.chch Go.Proofs.Ytodoncmielfbeaa.chw Go.Proofs.Ytodoncmielfbeaa.cha
set_option linter.unusedVariables false
set_option linter.unusedSimpArgs false
set_option maxHeartbeats 4000000
set_option maxRecDepth 100000

/-- A list of entries that was told is a row that can be read. -/
theorem out_row {w w' : World} {a : Option Addr} {c : Nat} {es : List Et} {L : List (Int × List Nat)} (h : OutE w w' a c es L) (hl : L.length ≤ 1024) : RowE w' a es := h.own.rows (by have := h.size; omega) h.len
theorem openL_len (nodes from_ : Int) (L : List chp.Pr) : (openL nodes from_ L).length ≤ 1024 := by
  unfold openL
  split
  · rename_i h
    rw [ents_len]
    unfold openE at h
    unfold openN
    split at h
    · simp at h
    · split at h
      · simp at h
      · split at h
        · simp at h
        · split at h
          · simp at h
          · omega
  · simp
theorem chosenA_len (nodes : Int) (l : List Pt) : (chosenA nodes (l.map pv)).length ≤ 1024 := by
  unfold chosenA
  split
  · rename_i h
    refine Nat.le_trans (chosenL_len _ _ _) ?_
    have h16 := right_size h
    have := slots_len (k := 16) (slots_of (l.map pv)) (fun p hp => by
      obtain ⟨q, hq, rfl⟩ := List.mem_map.1 hp
      simpa [pv] using h16.2 q hq)
    have h5 := h16.1
    rw [List.length_map] at this
    omega
  · simp
theorem plays_ok (w : World) (nodes from_ : Int) (a : Option Addr) (c : Nat) (l : List Pt) (h : RowP w a l) :
    Calls Try.prog 3 #[.int .i64 nodes, .int .i64 from_, .slice a l.length c] w fun e w' => e = .returned (.bool true) ∧ Below w.heap.size w w' := by
  have HO := Lib.hid (own_ok w a c l h)
  have HL := Lib.hid (fun (wr : World) (hb : Below w.heap.size w wr) => h.below hb)
  have hll := h.len
  have HOL := Lib.hid (openL_len nodes from_ (l.map pv))
  have HCL := Lib.hid (chosenA_len nodes l)
  clear h
  go_enter Try.func3, Try.ntmps3
  go_wp2_with fail
  refine HO.out.mono ?_; rintro e w1 ⟨a1, c1, qs, rfl, hq, hrow, hb1⟩
  have hql : qs.length = l.length := by have h := congrArg List.length hq; rw [List.length_map, List.length_map] at h; exact h
  have HP : Hid (∀ wx, Below w1.heap.size w1 wx → RowP wx a1 qs) := fun wx hb => (hrow.rowP (by omega)).below hb
  have HQ := Lib.hid hq
  have HB1 := Lib.hid hb1
  have HX := Lib.hid (open_ok w1 nodes from_ a1 c1 qs (HP.out w1 (Below.refl _ _)))
  rw [hq] at HX
  clear hq hrow hb1 hql HO
  go_wp2_with fail
  refine HX.out.mono ?_; rintro e w2 ⟨ax, cx, ex, rfl, hox, hb2⟩
  have HB2 := Lib.hid hb2
  have HOX := Lib.hid hox
  have HY := Lib.hid (ropen_ok w2 nodes from_ a c l (HL.out w2 (below_step HB1.out hb2)))
  clear hox hb2 HX
  go_wp2_with fail
  refine HY.out.mono ?_; rintro e w3 ⟨ay, cy, ey, rfl, hoy, hb3⟩
  have HB3 := Lib.hid (below_step HB2.out hb3)
  have HOX3 := Lib.hid (HOX.out.below hb3)
  have HOY := Lib.hid hoy
  have HC := Lib.hid (chosen_ok w3 nodes a1 c1 qs (HP.out w3 HB3.out))
  rw [HQ.out] at HC
  clear hoy hb3 HY HOX
  go_wp2_with fail
  refine HC.out.mono ?_; rintro e w4 ⟨ac, cc, ec, rfl, hoc, hb4⟩
  have HB4 := Lib.hid (below_step HB3.out hb4)
  have HOX4 := Lib.hid (HOX3.out.below hb4)
  have HOY4 := Lib.hid (HOY.out.below hb4)
  have HOC := Lib.hid hoc
  have HD := Lib.hid (rchosen_ok w4 nodes a c l (HL.out w4 (below_step HB1.out HB4.out)))
  clear hoc hb4 HC HOX3 HOY
  go_wp2_with fail
  refine HD.out.mono ?_; rintro e w5 ⟨ad, cd, ed, rfl, hod, hb5⟩
  have HB5 := Lib.hid (below_step HB4.out hb5)
  have HOX5 := Lib.hid (HOX4.out.below hb5)
  have HOY5 := Lib.hid (HOY4.out.below hb5)
  have HOC5 := Lib.hid (HOC.out.below hb5)
  have HOD := Lib.hid hod
  have HA := Lib.hid (awake_ok w5)
  clear hod hb5 HD HOX4 HOY4 HOC
  go_wp2_with fail
  refine HA.out.mono ?_; rintro e w6 ⟨rfl, hb6⟩
  have HB6 := Lib.hid (below_step HB5.out hb6)
  have HOX6 := Lib.hid (HOX5.out.below hb6)
  have HOY6 := Lib.hid (HOY5.out.below hb6)
  have HOC6 := Lib.hid (HOC5.out.below hb6)
  have HOD6 := Lib.hid (HOD.out.below hb6)
  have HR := Lib.hid (right_ok w6 nodes a1 c1 qs (HP.out w6 HB6.out))
  rw [HQ.out] at HR
  clear hb6 HA HOX5 HOY5 HOC5 HOD
  go_wp2_with fail
  refine HR.out.mono ?_; rintro e w7 ⟨rfl, hb7⟩
  have HB7 := Lib.hid (below_step HB6.out hb7)
  have HOX7 := Lib.hid (HOX6.out.below hb7)
  have HOY7 := Lib.hid (HOY6.out.below hb7)
  have HOC7 := Lib.hid (HOC6.out.below hb7)
  have HOD7 := Lib.hid (HOD6.out.below hb7)
  have HRR := Lib.hid (rright_ok w7 nodes a c l (HL.out w7 (below_step HB1.out HB7.out)))
  clear hb7 HR HOX6 HOY6 HOC6 HOD6
  go_wp2_with fail
  refine HRR.out.mono ?_; rintro e w8 ⟨rfl, hb8⟩
  have HB8 := Lib.hid (below_step HB7.out hb8)
  have HOX8 := Lib.hid (HOX7.out.below hb8)
  have HOY8 := Lib.hid (HOY7.out.below hb8)
  have HOC8 := Lib.hid (HOC7.out.below hb8)
  have HOD8 := Lib.hid (HOD7.out.below hb8)
  have HE := Lib.hid (entries_eq w8 ax ay cx cy ex ey (out_row HOX8.out HOL.out) (out_row HOY8.out HOL.out) (HOX8.out.data.trans HOY8.out.data.symm))
  clear hb8 HRR HOX7 HOY7 HOC7 HOD7
  obtain ⟨rb, hrb⟩ : ∃ rb, rb = rightB nodes (l.map pv) := ⟨_, rfl⟩
  rw [← hrb]
  have hbb : ∀ w, (binOp .eql 4 (.bool rb) (.bool rb)).run Try.prog w = .ok (.bool true) w := fun w => by cases rb <;> go_simp
  clear hrb
  go_wp2_with fail
  refine HE.out.mono ?_; rintro e w9 ⟨rfl, hb9⟩
  have HB9 := Lib.hid (below_step HB8.out hb9)
  have HE2 := Lib.hid (entries_eq w9 ac ad cc cd ec ed (out_row (HOC8.out.below hb9) HCL.out) (out_row (HOD8.out.below hb9) HCL.out) (HOC8.out.data.trans HOD8.out.data.symm))
  clear hb9 HE
  go_wp2_with fail
  refine HE2.out.mono ?_; rintro e w10 ⟨rfl, hb10⟩
  have HB10 := Lib.hid (below_step HB9.out hb10)
  have HAL := Lib.hid (alike_ok w10 a1 a c1 c qs l (HP.out w10 HB10.out) (HL.out w10 (below_step HB1.out HB10.out)) HQ.out)
  clear hb10 HE2
  go_wp2_with fail
  refine HAL.out.mono ?_; rintro e w11 ⟨rfl, hb11⟩
  have HB11 := Lib.hid (below_step HB1.out (below_step HB10.out hb11))
  clear hb11 HAL
  go_wp2_with fail
  go_ret
  exact ⟨rfl, HB11.out⟩
theorem lawWalk {H : Type} (enc : TypeId × Value → H) : LawWalk enc Try.prog 3 Try.f3 (fun _ => True) := by
  intro W base args ds p hval hA hsz _
  rw [Try.params3] at hA hval hsz
  obtain ⟨v0, vs0, d0, ds0, p0, q0, hargs, rfl, rfl, h0, r0⟩ := trodAll_cons hA
  obtain ⟨v1, vs1, d1, ds1, p1, q1, rfl, rfl, rfl, h1, r1⟩ := trodAll_cons r0
  obtain ⟨v2, vs2, d2, ds2, p2, q2, rfl, rfl, rfl, h2, r2⟩ := trodAll_cons r1
  obtain ⟨rfl, rfl, rfl⟩ := trodAll_nil r2
  obtain rfl : args = #[v0, v1, v2] := Array.toList_inj.1 hargs
  obtain ⟨n0, rfl, rfl, rfl, w0⟩ := open_int Try.underlying3 (hval 0 3 v0 rfl rfl) h0
  obtain ⟨n1, rfl, rfl, rfl, w1⟩ := open_int Try.underlying3 (hval 1 3 v1 rfl rfl) h1
  obtain ⟨a2, l2, c2, rfl, hP2⟩ := chl.open_prs (j := 2) (hval 2 22 v2 rfl rfl) h2 hsz rfl rfl
  exact plays_ok W n0 n1 a2 c2 l2 hP2

theorem own : ownKnob Try.prog.godebug = none := by kernel_rfl
theorem laidOut : laidOutB Try.prog = true := by kernel_rfl

set_option maxRecDepth 100000 in
theorem lifted (os : Os) (started : os.Started) (H : Type) (enc : TypeId × Value → H) :
    ReturnsInHanded {} Try.checked os 3 .any (Rows.choosePlaysSpec.pre6 enc Try.prog Try.f3 Rows.choosePlaysRow.domain false) (Rows.choosePlaysSpec.post enc Try.prog Try.f3 false true false false) := by
  refine returnsInHanded_of_change_sized (C := Try.checked) own started (by kernel_rfl) Try.func3
    (ChangeSpec.witness6 (enc := enc) (C := Try.checked) false ⟨#[], #[.int .i64 0, .int .i64 0, .slice none 0 0], []⟩ 8 (by kernel_rfl) (by kernel_rfl) (by kernel_rfl) (by kernel_rfl)) ?_
  intro W base args ds gs before hval hW hcnd hsz _
  exact law_post (C := Try.checked) laidOut (fun ds h => by match ds, h with | [_, _, _], _ => rfl) 4 rfl Try.underlying4 rfl (by kernel_rfl) hval hW hsz trivial (lawWalk enc)

theorem proved : Rows.ChoosePlaysSaid :=
  OpenClaim.holds_of_wide 3 Try.f3 rfl rfl rfl rfl rfl rfl rfl ⟨rfl, rfl, rfl, rfl, rfl⟩ rfl rfl rfl rfl rfl (by kernel_rfl) Try.func3 (by kernel_rfl)
    (of_decide_eq_true (by kernel_rfl)) (by unfold Func.isWrapper; first | (rw [if_pos (by decide +kernel)]; kernel_rfl) | (rw [if_neg (by decide +kernel)]; exact ⟨rfl, rfl⟩))
    (fun os started H enc _ => lifted os started H enc)
#print axioms proved
end Go.Proofs.Ytodoncmielfbeaa.choosePlays

