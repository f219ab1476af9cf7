/-
  The statement ClockNil: a nil clock.
-/
import Derived.Test.YtejjnhgiijhglaaClk2
import Derived.Test.YtejjnhgiijhglaaChecked
import Derived.Test.YtejjnhgiijhglaaRows
namespace Go.Proofs.Ytejjnhgiijhglaa.clockNil
open Go.ChangeShapes Go.WideShapes Go.ChangeAt Go.RowKit Go.Joins Go.ChangeMaps
open Go.Proofs.Ytejjnhgiijhglaa.kit Go.Proofs.Ytejjnhgiijhglaa.mapkit Go.Proofs.Ytejjnhgiijhglaa.clk
set_option linter.unusedVariables false
set_option linter.unusedSimpArgs false
set_option maxHeartbeats 1000000
set_option maxRecDepth 100000

theorem now_ok (w : World) (cb : Nat) (n : Int) (h : w.cell? ⟨cb, 0, none⟩ = some (.int .i64 n)) : Calls Try.prog 10 #[.pointer (some ⟨cb, 0, none⟩)] w fun e w' => e = .returned (.int .i64 n) ∧ w = w' := by
  go_enter Try.func10, Try.ntmps10
  go_wp2_with fail
  go_ret
  exact ⟨rfl, rfl⟩

theorem awake_ok (w : World) : Calls Try.prog 9 #[] w fun e w' => e = .returned (.bool true) ∧ Below w.heap.size w w' := by
  have hS := fun (w1 : World) (cb mb : Nat) (h : Empty w1 w.heap.size cb mb) (hb : w.heap.size ≤ w1.heap.size) => set_ok w1 w.heap.size cb mb xs kx h hb (by simp [xs, ByteArray.size]) (by simp [xs, ByteArray.size]) key_x trivial
  have hT := fun (w1 : World) (cb mb tb g cap : Nat) (h : One w1 w.heap.size cb mb tb g cap 0 xs kx) (hb : w.heap.size ≤ w1.heap.size) => tick_one w1 w.heap.size cb mb tb g cap xs kx h hb key_x
  have HS := Lib.hid hS
  have HT := Lib.hid hT
  clear hS hT
  go_enter Try.func9, Try.ntmps9
  go_wp2_with fail
  refine (new_ok w).mono ?_; rintro e w1 ⟨cb, mb, rfl, hE, hb1⟩
  have HE := Lib.hid hE
  clear hE
  go_wp2_with fail
  refine (HS.out w1 cb mb HE.out hb1.size).mono ?_; rintro e w2 ⟨rfl, ⟨tb, g, cap, hO⟩, hb2⟩
  have hB2 : Below w.heap.size w w2 := hb1.trans hb2
  have HO := Lib.hid hO
  clear hO
  go_wp2_with fail
  refine (HT.out w2 cb mb tb g cap HO.out hB2.size).mono ?_; rintro e w3 ⟨⟨b, c, rfl, hb0⟩, hc0, hb3⟩
  have hB3 : Below w.heap.size w w3 := hB2.trans hb3
  unfold xs at hb0
  go_wp2_with fail
  refine (now_ok w3 cb 1 hc0).mono ?_; rintro e w4 ⟨rfl, rfl⟩
  go_wp2_with fail
  go_ret
  exact ⟨rfl, hB3⟩

theorem walk_ok (s : ByteArray) (n : Int) (w : World) : Calls Try.prog 7 #[.string s, .int .i64 n] w fun e w' => e = .returned (.bool true) ∧ Below w.heap.size w w' := by
  go_enter Try.func7, Try.ntmps7
  go_wp2_with fail
  refine (nil_due s w).mono ?_; rintro e w1 ⟨rfl, rfl⟩
  go_wp2_with fail
  refine (awake_ok w).mono ?_; rintro e w2 ⟨rfl, hb2⟩
  go_wp2_with fail
  refine (nil_now w2).mono ?_; rintro e w3 ⟨rfl, rfl⟩
  go_wp2_with fail
  refine (nil_set s n w2).mono ?_; rintro e w3 ⟨rfl, rfl⟩
  go_wp2_with fail
  refine (nil_stop s w2).mono ?_; rintro e w3 ⟨rfl, rfl⟩
  go_wp2_with fail
  refine (nil_tick w2).mono ?_; rintro e w3 ⟨rfl, rfl⟩
  go_wp2_with fail
  refine (nil_names w2).mono ?_; rintro e w3 ⟨rfl, rfl⟩
  go_wp2_with fail
  refine (nil_fork w2).mono ?_; rintro e w3 ⟨rfl, rfl⟩
  go_wp2_with fail
  go_ret
  exact ⟨rfl, hb2⟩

theorem lawWalk {H : Type} (enc : TypeId × Value → H) : LawWalk enc Try.prog 7 Try.f7 (fun _ => True) := by
  intro W base args ds p hval hA hsz _
  rw [Try.params7] at hA hval
  obtain ⟨v0, vs0, d0, ds0, p0, q0, hargs, rfl, rfl, h0, r0⟩ := trodAll_cons hA
  obtain ⟨v1, vs1, d1, ds1, p1, q1, rfl, rfl, rfl, h1, r1⟩ := trodAll_cons r0
  obtain ⟨rfl, rfl, rfl⟩ := trodAll_nil r1
  obtain rfl : args = #[v0, v1] := by cases args; simp_all
  obtain ⟨s, rfl, rfl, rfl, ws⟩ := open_string Try.underlying9 (hval 0 9 v0 rfl rfl) h0
  obtain ⟨n, rfl, rfl, rfl, w1⟩ := open_int Try.underlying3 (hval 1 3 v1 rfl rfl) h1
  exact walk_ok s n W

theorem own : ownKnob Try.prog.godebug = none := by kernel_rfl
theorem laidOut : laidOutB Try.prog = true := by kernel_rfl

set_option maxRecDepth 100000 in
theorem lifted (os : Os) (started : os.Started) (H : Type) (enc : TypeId × Value → H) :
    ReturnsInHanded {} Try.checked os 7 .any (Rows.clockNilSpec.pre6 enc Try.prog Try.f7 Rows.clockNilRow.domain false) (Rows.clockNilSpec.post enc Try.prog Try.f7 false true false false) := by
  refine returnsInHanded_of_change_sized (C := Try.checked) own started (by kernel_rfl) Try.func7
    (ChangeSpec.witness6 (enc := enc) (C := Try.checked) false ⟨#[], #[.string ByteArray.empty, .int .i64 0], []⟩ 8 (by kernel_rfl) (by kernel_rfl) (by kernel_rfl) (by kernel_rfl)) ?_
  intro W base args ds gs before hval hW hcnd hsz _
  exact law_post (C := Try.checked) laidOut (fun ds h => by match ds, h with | [_, _], _ => rfl) 4 rfl Try.underlying4 rfl (by kernel_rfl) hval hW hsz trivial (lawWalk enc)

theorem proved : Rows.ClockNilSaid :=
  OpenClaim.holds_of_wide 7 Try.f7 rfl rfl rfl rfl rfl rfl rfl ⟨rfl, rfl, rfl, rfl, rfl⟩ rfl rfl rfl rfl rfl (by kernel_rfl) Try.func7 (by kernel_rfl)
    (of_decide_eq_true (by kernel_rfl)) (by unfold Func.isWrapper; first | (rw [if_pos (by decide +kernel)]; kernel_rfl) | (rw [if_neg (by decide +kernel)]; exact ⟨rfl, rfl⟩))
    (fun os started H enc _ => lifted os started H enc)
#print axioms proved
end Go.Proofs.Ytejjnhgiijhglaa.clockNil
