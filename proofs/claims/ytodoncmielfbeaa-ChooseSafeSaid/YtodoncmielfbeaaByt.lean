/-
  Contracts about slices of bytes: slices.Clone, bytes.Equal, and the helpers Own, Kept, Plain and Bytes.
-/
import Derived.Test.YtodoncmielfbeaaProg
import Derived.Test.YtodoncmielfbeaaKit
import Derived.Lib.Hide
import Derived.BigQuiet
import Derived.Deep.QuietTactic
import Derived.Deep.RegionHeld3
namespace Go.Proofs.Ytodoncmielfbeaa.byt
open Go.ChangeShapes Go.WideShapes Go.ChangeAt Go.RowKit
open Go.Proofs.Ytodoncmielfbeaa.kit
set_option linter.unusedVariables false
set_option linter.unusedSimpArgs false
set_option maxHeartbeats 1000000

def bcells (l : List Nat) : List Value := l.map fun x : Nat => Value.int .u8 (x : Int)
/-- All are bytes. -/
def Byt (l : List Nat) : Prop := ∀ x ∈ l, x < 256
theorem bcells_len (l : List Nat) : (bcells l).length = l.length := by simp [bcells]
theorem bcells_one (l : List Nat) : ∀ u ∈ bcells l, u.oneCell' = true := by
  intro u hu
  simp only [bcells, List.mem_map] at hu
  obtain ⟨n, _, rfl⟩ := hu
  rfl
theorem bcells_get {l : List Nat} {i : Nat} (h : i < l.length) : (bcells l)[i]? = some (.int .u8 (l[i] : Nat)) := by simp [bcells, h]
theorem bcells_append (a b : List Nat) : bcells (a ++ b) = bcells a ++ bcells b := by simp [bcells]
theorem infoByte : (Try.prog.info? 5).map (fun i => (i.zero, i.size, i.bytes)) = some (some (.int .u8 0), 1, 1) := by kernel_rfl

theorem owned_some {w : World} {base : Nat} {e : TypeId} {size : Nat} {v : Value} {n : Nat} {xs : List Value} (h : w.ownsRow base e size v n xs) (hn : 0 < n) :
    ∃ g cap, v = .slice (some ⟨g, 0, none⟩) n cap ∧ n ≤ cap ∧ cap ≤ maxLen ∧ base ≤ g ∧ g < w.heap.size := by
  obtain ⟨hlen, h⟩ := h
  rcases h with ⟨rfl, rfl⟩ | ⟨g, cap, cur, rfl, hg, hh, hc, hm, hsz, hx⟩
  · omega
  · exact ⟨g, cap, rfl, hc, hm, hg, (Array.getElem?_eq_some_iff.1 hh).1⟩

/-- What a call hands back: a slice of bytes in memory of its own. -/
def Gives (w : World) (l : List Nat) (e : Ending) (w' : World) : Prop :=
  ∃ v, e = .returned v ∧ w'.ownsRow w.heap.size 5 1 v l.length (bcells l) ∧ Below w.heap.size w w'

theorem clone_nil (w : World) : Calls Try.prog 32 #[.slice none 0 0] w fun e w' => e = .returned (.slice none 0 0) ∧ w = w' := by
  have hn := fun w => Lib.run_eql_slice_nil (P := Try.prog) w 37 5 none 0 0 0 0 Try.underlying37
  go_enter Try.func32, Try.ntmps32
  go_wp2_with fail
  go_ret
  exact ⟨rfl, rfl⟩

theorem clone_some (l : List Nat) (ad : Addr) (cap : Nat) (w : World) (hl : l.length ≤ 140737488355328) (hat : Lie w (some ad) (bcells l)) :
    Calls Try.prog 32 #[.slice (some ad) l.length cap] w (Gives w l) := by
  obtain ⟨i0, hi, hz0, hz1, hz2⟩ := info_parts infoByte
  have hn := fun w => Lib.run_eql_slice_nil (P := Try.prog) w 37 5 (some ad) l.length cap 0 0 Try.underlying37
  have hown : (w.alloc (.cells #[] 5)).ownsRow w.heap.size 5 1 (.slice (some ⟨w.heap.size, 0, none⟩) 0 0) 0 [] :=
    ⟨rfl, .inr ⟨w.heap.size, 0, #[], rfl, Nat.le_refl _, hp_alloc_new _ _, Nat.le_refl _, by simp [maxLen], rfl, rfl⟩⟩
  have hat' : Lie (w.alloc (.cells #[] 5)) (some ad) (bcells l) := hat.below (below_new1 _ _)
  go_enter Try.func32, Try.ntmps32
  go_wp2_with (at_builtin; refine wpl_append rfl (.tmp 5) (.tmp 6) 37 rfl w.heap.size 5 i0 (.int .u8 0) 1 1 Try.underlying37 hi hz0 hz1 hz2 rfl (by decide) _ 0 [] rfl hown (some ad) l.length cap (bcells l) rfl (by simp) (by simp [bcells]) hat' (bcells_one _) (by unfold maxLen; omega) (by omega) (by rw [size_new]; omega) ?_)
  intro v' w' hown' hgr
  go_wp2_with fail
  go_ret
  refine ⟨v', rfl, ?_, (below_new1 _ _).grown hgr (by rw [size_new]; omega) (fun k hk => (hown.lt k hk).1)⟩
  simpa using hown'

theorem clone_any (l : List Nat) (ao : Option Addr) (cap : Nat) (w : World) (hl : l.length ≤ 140737488355328) (hn : ao = none → l.length = 0 ∧ cap = 0) (hat : Lie w ao (bcells l)) :
    Calls Try.prog 32 #[.slice ao l.length cap] w (Gives w l) := by
  cases ao with
  | none =>
    obtain ⟨h1, rfl⟩ := hn rfl
    obtain rfl : l = [] := List.length_eq_zero_iff.1 h1
    refine (clone_nil w).mono fun e w' ⟨he, hw⟩ => ?_
    subst hw
    exact ⟨_, he, World.ownsRow_nil _ _ _ _, Below.refl _ _⟩
  | some ad => exact clone_some l ad cap w hl hat

/-- Two lists of bcells are one. -/
def sameB (a b : List Nat) : Bool := a == b

theorem plain_ne (a b : List Nat) (x y : Option Addr) (cx cy : Nat) (w : World) (h : (a.length == b.length) = false) :
    Calls Try.prog 47 #[.slice x a.length cx, .slice y b.length cy] w fun e w' => e = .returned (.bool false) ∧ w = w' := by
  have h' : ((a.length : Int) != (b.length : Int)) = true := by simp at h ⊢; omega
  go_enter Try.func47, Try.ntmps47
  go_wp2_with fail
  go_ret
  exact ⟨rfl, rfl⟩

theorem plain_nil (x y : Option Addr) (cx cy : Nat) (w : World) :
    Calls Try.prog 47 #[.slice x 0 cx, .slice y 0 cy] w fun e w' => e = .returned (.bool (sameB [] [])) ∧ Below w.heap.size w w' := by
  go_enter Try.func47, Try.ntmps47
  go_wp2_with fail
  refine wp_loop_rounds 1 ?_
  rw [rounds_succ]
  go_wp2_with fail
  go_ret
  exact ⟨rfl, Below.refl _ _⟩

theorem plain_eq (a b : List Nat) (bx ox bz oz cx cy : Nat) (w : World) (hbx : bx < w.heap.size) (hbz : bz < w.heap.size) (h : a.length = b.length) (hl : a.length ≤ 9223372036854775807)
    (hx : ∀ i, i < (bcells a).length → w.cell? ⟨bx, ox + i, none⟩ = (bcells a)[i]?) (hy : ∀ i, i < (bcells b).length → w.cell? ⟨bz, oz + i, none⟩ = (bcells b)[i]?) :
    Calls Try.prog 47 #[.slice (some ⟨bx, ox, none⟩) a.length cx, .slice (some ⟨bz, oz, none⟩) b.length cy] w
      fun e w' => e = .returned (.bool (sameB a b)) ∧ Below w.heap.size w w' := by
  have HX := Lib.hid hx
  have HY := Lib.hid hy
  have HE := Lib.hid h
  rw [← h]
  have hne : ((a.length : Int) != (a.length : Int)) = false := by simp
  clear hx hy h
  go_enter Try.func47, Try.ntmps47
  go_wp2_with fail
  go_loopw [5] (fun i wr => ∃ k : Nat, k ≤ a.length ∧ i = .int .i64 k ∧ Below w.heap.size w wr ∧ Hid (a.take k = b.take k)) (fun i _ => a.length - (intOf i).toNat)
  case atStart => exact ⟨0, Nat.zero_le _, rfl, Below.refl _ _, rfl⟩
  case round =>
    obtain ⟨k, hk, rfl, hb, hT⟩ := hrel
    by_cases hlt : k < a.length
    · have hlb : k < b.length := by have := HE.out; omega
      have hx' : wr.cell? ⟨bx, ox + k, none⟩ = some (.int .u8 (a[k] : Nat)) := by rw [hb.cell (by exact hbx), HX.out k (by rw [bcells_len]; exact hlt), bcells_get hlt]
      have hy' : wr.cell? ⟨bz, oz + k, none⟩ = some (.int .u8 (b[k] : Nat)) := by rw [hb.cell (by exact hbz), HY.out k (by rw [bcells_len]; exact hlb), bcells_get hlb]
      obtain ⟨p, hp⟩ : ∃ p, p = a[k] := ⟨_, rfl⟩
      obtain ⟨q, hq⟩ : ∃ q, q = b[k] := ⟨_, rfl⟩
      rw [← hp] at hx'
      rw [← hq] at hy'
      have c1 : decide ((k : Int) < (a.length : Int)) = true := by simpa using hlt
      have HP := Lib.hid hp
      have HQ := Lib.hid hq
      have HLB := Lib.hid hlb
      clear hp hq
      by_cases hpq : p = q
      · have hne' : ((p : Int) != (q : Int)) = false := by simp [hpq]
        have hT' : Hid (a.take (k + 1) = b.take (k + 1)) := by
          simp only [Hid]
          rw [List.take_succ_eq_append_getElem hlt, List.take_succ_eq_append_getElem hlb, hT.out, ← HP.out, ← HQ.out, hpq]
        clear hpq hT
        go_wp2_with fail
        go_quiet (fail)
        go_wp2_with fail
        go_roundw
        case rel => exact ⟨k + 1, by omega, by go_num, below_drewN hb _, hT'⟩
        case measure => simp [intOf]; omega
      · have hne' : ((p : Int) != (q : Int)) = true := by simp; omega
        have HS : Hid (sameB a b = false) := by
          simp only [Hid, sameB, beq_eq_false_iff_ne]
          intro e
          apply hpq
          rw [HP.out, HQ.out]
          simp [e]
        clear hpq hT
        go_wp2_with fail
        go_quiet (fail)
        go_wp2_with fail
        go_ret
        exact ⟨by rw [HS.out]; rfl, below_drewN hb _⟩
    · have HS : Hid (sameB a b = true) := by
        have := hT.out
        have h := HE.out
        rw [List.take_of_length_le (by omega), List.take_of_length_le (by omega)] at this
        simp [Hid, sameB, this]
      clear hT
      go_wp2_with fail
      go_ret
      exact ⟨by rw [HS.out]; rfl, hb⟩

theorem plain_any (a b : List Nat) (x y : Option Addr) (cx cy : Nat) (w : World) (hl : a.length ≤ 9223372036854775807) (hx : Lie w x (bcells a)) (hy : Lie w y (bcells b)) :
    Calls Try.prog 47 #[.slice x a.length cx, .slice y b.length cy] w fun e w' => e = .returned (.bool (sameB a b)) ∧ Below w.heap.size w w' := by
  by_cases h : a.length = b.length
  · rcases hx with h0 | ⟨bx, ox, rfl, hbx, hx⟩
    · obtain rfl : a = [] := by simpa [bcells] using h0
      obtain rfl : b = [] := List.length_eq_zero_iff.1 h.symm
      exact plain_nil x y cx cy w
    · rcases hy with h0 | ⟨bz, oz, rfl, hbz, hy⟩
      · obtain rfl : b = [] := by simpa [bcells] using h0
        obtain rfl : a = [] := List.length_eq_zero_iff.1 h
        exact plain_nil _ y cx cy w
      · exact plain_eq a b bx ox bz oz cx cy w hbx hbz h hl hx hy
  · have hs : sameB a b = false := by
      simp only [sameB, beq_eq_false_iff_ne]
      rintro rfl
      exact h rfl
    rw [hs]
    refine (plain_ne a b x y cx cy w (by simpa using h)).mono fun e w' ⟨he, hw⟩ => ⟨he, hw ▸ Below.refl _ _⟩

theorem bytes_any (a b : List Nat) (x y : Option Addr) (cx cy : Nat) (w : World) (hl : a.length ≤ 9223372036854775807) (hx : Lie w x (bcells a)) (hy : Lie w y (bcells b)) :
    Calls Try.prog 18 #[.slice x a.length cx, .slice y b.length cy] w fun e w' => e = .returned (.bool (sameB a b)) ∧ Below w.heap.size w w' := by
  go_enter Try.func18, Try.ntmps18
  go_wp2_with (go_at_call 47; refine (plain_any a b x y cx cy _ hl hx hy).mono ?_; rintro e w1 ⟨rfl, hb⟩)
  go_ret
  exact ⟨rfl, hb⟩
end Go.Proofs.Ytodoncmielfbeaa.byt
