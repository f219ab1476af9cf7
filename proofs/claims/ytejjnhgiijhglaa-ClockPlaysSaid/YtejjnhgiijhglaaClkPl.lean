/-
  A clock in memory: two lists of names compared (same.Plain).
-/
import Derived.Test.YtejjnhgiijhglaaClkR
namespace Go.Proofs.Ytejjnhgiijhglaa.clkpl
open Go.ChangeShapes Go.WideShapes Go.ChangeAt Go.RowKit
open Go.Proofs.Ytejjnhgiijhglaa.kit Go.Proofs.Ytejjnhgiijhglaa.own Go.Proofs.Ytejjnhgiijhglaa.clkr
set_option linter.unusedVariables false
set_option linter.unusedSimpArgs false
set_option maxHeartbeats 1000000
set_option maxRecDepth 100000

theorem plain_ok (w : World) (N1 N2 c1 c2 : Nat) (a1 a2 : Option Addr) (xs : List ByteArray) (h1 : w.ownsRow N1 9 1 (.slice a1 xs.length c1) xs.length (xs.map Value.string)) (h2 : w.ownsRow N2 9 1 (.slice a2 xs.length c2) xs.length (xs.map Value.string)) (hl : xs.length ≤ 64) :
    Calls Try.prog 16 #[.slice a1 xs.length c1, .slice a2 xs.length c2] w fun e w' => e = .returned (.bool true) ∧ Below w.heap.size w w' := by
  have H1 := Lib.hid h1
  have H2 := Lib.hid h2
  clear h1 h2
  go_enter Try.func16, Try.ntmps16
  go_wp2_with fail
  go_loopw [5] (fun kv wr => ∃ k : Nat, k ≤ xs.length ∧ kv = .int .i64 k ∧ Hid (Below w.heap.size w wr)) (fun kv _ => xs.length - (intOf kv).toNat)
  case atStart => exact ⟨0, Nat.zero_le _, rfl, Below.refl _ _⟩
  case round =>
    obtain ⟨k, hk, rfl, HB⟩ := hrel
    by_cases hkl : k < xs.length
    · obtain ⟨g1, rfl⟩ := own_ptr H1.out (by omega)
      obtain ⟨g2, rfl⟩ := own_ptr H2.out (by omega)
      have x1 := cell_step (str_cell H1.out hkl) HB.out
      have x2 := cell_step (str_cell H2.out hkl) HB.out
      have z1 : g1 < wr.heap.size := Nat.lt_of_lt_of_le (own_from H1.out g1 rfl).2 HB.out.size
      have z2 : g2 < wr.heap.size := Nat.lt_of_lt_of_le (own_from H2.out g2 rfl).2 HB.out.size
      obtain ⟨x, hx⟩ : ∃ x, x = xs[k] := ⟨_, rfl⟩
      rw [← hx] at x1 x2
      clear hx
      go_wp2_with fail
      go_quiet (fail)
      go_wp2_with fail
      go_roundw
      case rel => exact ⟨k + 1, by omega, by go_num, below_drewN HB.out _⟩
      case measure => simp [intOf]; omega
    · obtain rfl : k = xs.length := by omega
      go_wp2_with fail
      go_ret
      exact ⟨rfl, HB.out⟩
end Go.Proofs.Ytejjnhgiijhglaa.clkpl
