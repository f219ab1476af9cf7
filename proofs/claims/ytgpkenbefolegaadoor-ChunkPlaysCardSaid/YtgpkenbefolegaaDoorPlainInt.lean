/-
  Contract of Plain over two slices of ints.
-/
import Derived.Test.YtgpkenbefolegaaDoorMiss
namespace Go.Proofs.YtgpkenbefolegaaDoor.box
open Go.ChangeShapes Go.WideShapes Go.ChangeAt Go.RowKit
open Go.Proofs.YtgpkenbefolegaaDoor.kit Go.Proofs.YtgpkenbefolegaaDoor.byt
set_option linter.unusedVariables false
set_option linter.unusedSimpArgs false
set_option maxHeartbeats 1000000
set_option maxRecDepth 100000

theorem plainI_ne (a b : List Nat) (x y : Option Addr) (cx cy : Nat) (w : World) (h : (a.length == b.length) = false) :
    Calls Tryd.prog 22 #[.slice x a.length cx, .slice y b.length cy] w fun e w' => e = .returned (.bool false) ∧ w = w' := by
  have h' : ((a.length : Int) != (b.length : Int)) = true := by simp at h ⊢; omega
  go_enter Tryd.func22, Tryd.ntmps22
  go_wp2_with fail
  go_ret
  exact ⟨rfl, rfl⟩

theorem plainI_nil (x y : Option Addr) (cx cy : Nat) (w : World) :
    Calls Tryd.prog 22 #[.slice x 0 cx, .slice y 0 cy] w fun e w' => e = .returned (.bool (sameB [] [])) ∧ Below w.heap.size w w' := by
  go_enter Tryd.func22, Tryd.ntmps22
  go_wp2_with fail
  refine wp_loop_rounds 1 ?_
  rw [rounds_succ]
  go_wp2_with fail
  go_ret
  exact ⟨rfl, Below.refl _ _⟩

theorem plainI_eq (a b : List Nat) (bx ox bz oz cx cy : Nat) (w : World) (hbx : bx < w.heap.size) (hbz : bz < w.heap.size) (h : a.length = b.length) (hl : a.length ≤ 9223372036854775807)
    (hx : ∀ i, i < (icells a).length → w.cell? ⟨bx, ox + i, none⟩ = (icells a)[i]?) (hy : ∀ i, i < (icells b).length → w.cell? ⟨bz, oz + i, none⟩ = (icells b)[i]?) :
    Calls Tryd.prog 22 #[.slice (some ⟨bx, ox, none⟩) a.length cx, .slice (some ⟨bz, oz, none⟩) b.length cy] w
      fun e w' => e = .returned (.bool (sameB a b)) ∧ Below w.heap.size w w' := by
  have HX := Lib.hid hx
  have HY := Lib.hid hy
  have HE := Lib.hid h
  rw [← h]
  have hne : ((a.length : Int) != (a.length : Int)) = false := by simp
  clear hx hy h
  go_enter Tryd.func22, Tryd.ntmps22
  go_wp2_with fail
  go_loopw [5] (fun i wr => ∃ k : Nat, k ≤ a.length ∧ i = .int .i64 k ∧ Below w.heap.size w wr ∧ Hid (a.take k = b.take k)) (fun i _ => a.length - (intOf i).toNat)
  case atStart => exact ⟨0, Nat.zero_le _, rfl, Below.refl _ _, rfl⟩
  case round =>
    obtain ⟨k, hk, rfl, hb, hT⟩ := hrel
    by_cases hlt : k < a.length
    · have hlb : k < b.length := by have := HE.out; omega
      have hx' : wr.cell? ⟨bx, ox + k, none⟩ = some (.int .i64 (a[k] : Nat)) := by rw [hb.cell (by exact hbx), HX.out k (by rw [icells_len]; exact hlt), icells_get hlt]
      have hy' : wr.cell? ⟨bz, oz + k, none⟩ = some (.int .i64 (b[k] : Nat)) := by rw [hb.cell (by exact hbz), HY.out k (by rw [icells_len]; exact hlb), icells_get hlb]
      obtain ⟨p, hp⟩ : ∃ p, p = a[k] := ⟨_, rfl⟩
      obtain ⟨q, hq⟩ : ∃ q, q = b[k] := ⟨_, rfl⟩
      rw [← hp] at hx'
      rw [← hq] at hy'
      have c1 : decide ((k : Int) < (a.length : Int)) = true := by simpa using hlt
      have HP := Lib.hid hp
      have HQ := Lib.hid hq
      have HLB := Lib.hid hlb
      clear hp hq
      by_cases hpq : p = q
      · have hne' : ((p : Int) != (q : Int)) = false := by simp [hpq]
        have hT' : Hid (a.take (k + 1) = b.take (k + 1)) := by
          simp only [Hid]
          rw [List.take_succ_eq_append_getElem hlt, List.take_succ_eq_append_getElem hlb, hT.out, ← HP.out, ← HQ.out, hpq]
        clear hpq hT
        go_wp2_with fail
        go_quiet (fail)
        go_wp2_with fail
        go_roundw
        case rel => exact ⟨k + 1, by omega, by go_num, below_drewN hb _, hT'⟩
        case measure => simp [intOf]; omega
      · have hne' : ((p : Int) != (q : Int)) = true := by simp; omega
        have HS : Hid (sameB a b = false) := by
          simp only [Hid, sameB, beq_eq_false_iff_ne]
          intro e
          apply hpq
          rw [HP.out, HQ.out]
          simp [e]
        clear hpq hT
        go_wp2_with fail
        go_quiet (fail)
        go_wp2_with fail
        go_ret
        exact ⟨by rw [HS.out]; rfl, below_drewN hb _⟩
    · have HS : Hid (sameB a b = true) := by
        have := hT.out
        have h := HE.out
        rw [List.take_of_length_le (by omega), List.take_of_length_le (by omega)] at this
        simp [Hid, sameB, this]
      clear hT
      go_wp2_with fail
      go_ret
      exact ⟨by rw [HS.out]; rfl, hb⟩

theorem plainI_any (a b : List Nat) (x y : Option Addr) (cx cy : Nat) (w : World) (hl : a.length ≤ 9223372036854775807) (hx : Lie w x (icells a)) (hy : Lie w y (icells b)) :
    Calls Tryd.prog 22 #[.slice x a.length cx, .slice y b.length cy] w fun e w' => e = .returned (.bool (sameB a b)) ∧ Below w.heap.size w w' := by
  by_cases h : a.length = b.length
  · rcases hx with h0 | ⟨bx, ox, rfl, hbx, hx⟩
    · obtain rfl : a = [] := by simpa [icells] using h0
      obtain rfl : b = [] := List.length_eq_zero_iff.1 h.symm
      exact plainI_nil x y cx cy w
    · rcases hy with h0 | ⟨bz, oz, rfl, hbz, hy⟩
      · obtain rfl : b = [] := by simpa [icells] using h0
        obtain rfl : a = [] := List.length_eq_zero_iff.1 h
        exact plainI_nil _ y cx cy w
      · exact plainI_eq a b bx ox bz oz cx cy w hbx hbz h hl hx hy
  · have hs : sameB a b = false := by
      simp only [sameB, beq_eq_false_iff_ne]
      rintro rfl
      exact h rfl
    rw [hs]
    refine (plainI_ne a b x y cx cy w (by simpa using h)).mono fun e w' ⟨he, hw⟩ => ⟨he, hw ▸ Below.refl _ _⟩
end Go.Proofs.YtgpkenbefolegaaDoor.box
