/-
  Contracts about slices of bytes: slices.Clone, bytes.Equal, and the helpers Own, Kept, Plain and Bytes.
-/
import Derived.Test.YtgpkenbefolegaaDoorProg
import Derived.Test.YtgpkenbefolegaaDoorKit
import Derived.Lib.Hide
import Derived.BigQuiet
import Derived.Deep.QuietTactic
import Derived.Deep.RegionHeld3
namespace Go.Proofs.YtgpkenbefolegaaDoor.byt
open Go.ChangeShapes Go.WideShapes Go.ChangeAt Go.RowKit
open Go.Proofs.YtgpkenbefolegaaDoor.kit
set_option linter.unusedVariables false
set_option linter.unusedSimpArgs false
set_option maxHeartbeats 1000000

def bcells (l : List Nat) : List Value := l.map fun x : Nat => Value.int .u8 (x : Int)
/-- All are bytes. -/
def Byt (l : List Nat) : Prop := ∀ x ∈ l, x < 256
theorem bcells_len (l : List Nat) : (bcells l).length = l.length := by simp [bcells]
theorem bcells_one (l : List Nat) : ∀ u ∈ bcells l, u.oneCell' = true := by
  intro u hu
  simp only [bcells, List.mem_map] at hu
  obtain ⟨n, _, rfl⟩ := hu
  rfl
theorem bcells_get {l : List Nat} {i : Nat} (h : i < l.length) : (bcells l)[i]? = some (.int .u8 (l[i] : Nat)) := by simp [bcells, h]
theorem bcells_append (a b : List Nat) : bcells (a ++ b) = bcells a ++ bcells b := by simp [bcells]
theorem infoByte : (Tryd.prog.info? 5).map (fun i => (i.zero, i.size, i.bytes)) = some (some (.int .u8 0), 1, 1) := by kernel_rfl

theorem owned_some {w : World} {base : Nat} {e : TypeId} {size : Nat} {v : Value} {n : Nat} {xs : List Value} (h : w.ownsRow base e size v n xs) (hn : 0 < n) :
    ∃ g cap, v = .slice (some ⟨g, 0, none⟩) n cap ∧ n ≤ cap ∧ cap ≤ maxLen ∧ base ≤ g ∧ g < w.heap.size := by
  obtain ⟨hlen, h⟩ := h
  rcases h with ⟨rfl, rfl⟩ | ⟨g, cap, cur, rfl, hg, hh, hc, hm, hsz, hx⟩
  · omega
  · exact ⟨g, cap, rfl, hc, hm, hg, (Array.getElem?_eq_some_iff.1 hh).1⟩

/-- What a call hands back: a slice of bytes in memory of its own. -/
def Gives (w : World) (l : List Nat) (e : Ending) (w' : World) : Prop :=
  ∃ v, e = .returned v ∧ w'.ownsRow w.heap.size 5 1 v l.length (bcells l) ∧ Below w.heap.size w w'

theorem clone_nil (w : World) : Calls Tryd.prog 29 #[.slice none 0 0] w fun e w' => e = .returned (.slice none 0 0) ∧ w = w' := by
  have hn := fun w => Lib.run_eql_slice_nil (P := Tryd.prog) w 22 5 none 0 0 0 0 Tryd.underlying22
  go_enter Tryd.func29, Tryd.ntmps29
  go_wp2_with fail
  go_ret
  exact ⟨rfl, rfl⟩

theorem clone_some (l : List Nat) (ad : Addr) (cap : Nat) (w : World) (hl : l.length ≤ 140737488355328) (hat : Lie w (some ad) (bcells l)) :
    Calls Tryd.prog 29 #[.slice (some ad) l.length cap] w (Gives w l) := by
  obtain ⟨i0, hi, hz0, hz1, hz2⟩ := info_parts infoByte
  have hn := fun w => Lib.run_eql_slice_nil (P := Tryd.prog) w 22 5 (some ad) l.length cap 0 0 Tryd.underlying22
  have hown : (w.alloc (.cells #[] 5)).ownsRow w.heap.size 5 1 (.slice (some ⟨w.heap.size, 0, none⟩) 0 0) 0 [] :=
    ⟨rfl, .inr ⟨w.heap.size, 0, #[], rfl, Nat.le_refl _, hp_alloc_new _ _, Nat.le_refl _, by simp [maxLen], rfl, rfl⟩⟩
  have hat' : Lie (w.alloc (.cells #[] 5)) (some ad) (bcells l) := hat.below (below_new1 _ _)
  go_enter Tryd.func29, Tryd.ntmps29
  go_wp2_with (at_builtin; refine wpl_append rfl (.tmp 5) (.tmp 6) 22 rfl w.heap.size 5 i0 (.int .u8 0) 1 1 Tryd.underlying22 hi hz0 hz1 hz2 rfl (by decide) _ 0 [] rfl hown (some ad) l.length cap (bcells l) rfl (by simp) (by simp [bcells]) hat' (bcells_one _) (by unfold maxLen; omega) (by omega) (by rw [size_new]; omega) ?_)
  intro v' w' hown' hgr
  go_wp2_with fail
  go_ret
  refine ⟨v', rfl, ?_, (below_new1 _ _).grown hgr (by rw [size_new]; omega) (fun k hk => (hown.lt k hk).1)⟩
  simpa using hown'

theorem clone_any (l : List Nat) (ao : Option Addr) (cap : Nat) (w : World) (hl : l.length ≤ 140737488355328) (hn : ao = none → l.length = 0 ∧ cap = 0) (hat : Lie w ao (bcells l)) :
    Calls Tryd.prog 29 #[.slice ao l.length cap] w (Gives w l) := by
  cases ao with
  | none =>
    obtain ⟨h1, rfl⟩ := hn rfl
    obtain rfl : l = [] := List.length_eq_zero_iff.1 h1
    refine (clone_nil w).mono fun e w' ⟨he, hw⟩ => ?_
    subst hw
    exact ⟨_, he, World.ownsRow_nil _ _ _ _, Below.refl _ _⟩
  | some ad => exact clone_some l ad cap w hl hat

/-- Two lists of bcells are one. -/
def sameB (a b : List Nat) : Bool := a == b

theorem plain_ne (a b : List Nat) (x y : Option Addr) (cx cy : Nat) (w : World) (h : (a.length == b.length) = false) :
    Calls Tryd.prog 30 #[.slice x a.length cx, .slice y b.length cy] w fun e w' => e = .returned (.bool false) ∧ w = w' := by
  have h' : ((a.length : Int) != (b.length : Int)) = true := by simp at h ⊢; omega
  go_enter Tryd.func30, Tryd.ntmps30
  go_wp2_with fail
  go_ret
  exact ⟨rfl, rfl⟩

theorem plain_nil (x y : Option Addr) (cx cy : Nat) (w : World) :
    Calls Tryd.prog 30 #[.slice x 0 cx, .slice y 0 cy] w fun e w' => e = .returned (.bool (sameB [] [])) ∧ Below w.heap.size w w' := by
  go_enter Tryd.func30, Tryd.ntmps30
  go_wp2_with fail
  refine wp_loop_rounds 1 ?_
  rw [rounds_succ]
  go_wp2_with fail
  go_ret
  exact ⟨rfl, Below.refl _ _⟩

theorem plain_eq (a b : List Nat) (bx ox bz oz cx cy : Nat) (w : World) (hbx : bx < w.heap.size) (hbz : bz < w.heap.size) (h : a.length = b.length) (hl : a.length ≤ 9223372036854775807)
    (hx : ∀ i, i < (bcells a).length → w.cell? ⟨bx, ox + i, none⟩ = (bcells a)[i]?) (hy : ∀ i, i < (bcells b).length → w.cell? ⟨bz, oz + i, none⟩ = (bcells b)[i]?) :
    Calls Tryd.prog 30 #[.slice (some ⟨bx, ox, none⟩) a.length cx, .slice (some ⟨bz, oz, none⟩) b.length cy] w
      fun e w' => e = .returned (.bool (sameB a b)) ∧ Below w.heap.size w w' := by
  have HX := Lib.hid hx
  have HY := Lib.hid hy
  have HE := Lib.hid h
  rw [← h]
  have hne : ((a.length : Int) != (a.length : Int)) = false := by simp
  clear hx hy h
  go_enter Tryd.func30, Tryd.ntmps30
  go_wp2_with fail
  go_loopw [5] (fun i wr => ∃ k : Nat, k ≤ a.length ∧ i = .int .i64 k ∧ Below w.heap.size w wr ∧ Hid (a.take k = b.take k)) (fun i _ => a.length - (intOf i).toNat)
  case atStart => exact ⟨0, Nat.zero_le _, rfl, Below.refl _ _, rfl⟩
  case round =>
    obtain ⟨k, hk, rfl, hb, hT⟩ := hrel
    by_cases hlt : k < a.length
    · have hlb : k < b.length := by have := HE.out; omega
      have hx' : wr.cell? ⟨bx, ox + k, none⟩ = some (.int .u8 (a[k] : Nat)) := by rw [hb.cell (by exact hbx), HX.out k (by rw [bcells_len]; exact hlt), bcells_get hlt]
      have hy' : wr.cell? ⟨bz, oz + k, none⟩ = some (.int .u8 (b[k] : Nat)) := by rw [hb.cell (by exact hbz), HY.out k (by rw [bcells_len]; exact hlb), bcells_get hlb]
      obtain ⟨p, hp⟩ : ∃ p, p = a[k] := ⟨_, rfl⟩
      obtain ⟨q, hq⟩ : ∃ q, q = b[k] := ⟨_, rfl⟩
      rw [← hp] at hx'
      rw [← hq] at hy'
      have c1 : decide ((k : Int) < (a.length : Int)) = true := by simpa using hlt
      have HP := Lib.hid hp
      have HQ := Lib.hid hq
      have HLB := Lib.hid hlb
      clear hp hq
      by_cases hpq : p = q
      · have hne' : ((p : Int) != (q : Int)) = false := by simp [hpq]
        have hT' : Hid (a.take (k + 1) = b.take (k + 1)) := by
          simp only [Hid]
          rw [List.take_succ_eq_append_getElem hlt, List.take_succ_eq_append_getElem hlb, hT.out, ← HP.out, ← HQ.out, hpq]
        clear hpq hT
        go_wp2_with fail
        go_quiet (fail)
        go_wp2_with fail
        go_roundw
        case rel => exact ⟨k + 1, by omega, by go_num, below_drewN hb _, hT'⟩
        case measure => simp [intOf]; omega
      · have hne' : ((p : Int) != (q : Int)) = true := by simp; omega
        have HS : Hid (sameB a b = false) := by
          simp only [Hid, sameB, beq_eq_false_iff_ne]
          intro e
          apply hpq
          rw [HP.out, HQ.out]
          simp [e]
        clear hpq hT
        go_wp2_with fail
        go_quiet (fail)
        go_wp2_with fail
        go_ret
        exact ⟨by rw [HS.out]; rfl, below_drewN hb _⟩
    · have HS : Hid (sameB a b = true) := by
        have := hT.out
        have h := HE.out
        rw [List.take_of_length_le (by omega), List.take_of_length_le (by omega)] at this
        simp [Hid, sameB, this]
      clear hT
      go_wp2_with fail
      go_ret
      exact ⟨by rw [HS.out]; rfl, hb⟩

theorem plain_any (a b : List Nat) (x y : Option Addr) (cx cy : Nat) (w : World) (hl : a.length ≤ 9223372036854775807) (hx : Lie w x (bcells a)) (hy : Lie w y (bcells b)) :
    Calls Tryd.prog 30 #[.slice x a.length cx, .slice y b.length cy] w fun e w' => e = .returned (.bool (sameB a b)) ∧ Below w.heap.size w w' := by
  by_cases h : a.length = b.length
  · rcases hx with h0 | ⟨bx, ox, rfl, hbx, hx⟩
    · obtain rfl : a = [] := by simpa [bcells] using h0
      obtain rfl : b = [] := List.length_eq_zero_iff.1 h.symm
      exact plain_nil x y cx cy w
    · rcases hy with h0 | ⟨bz, oz, rfl, hbz, hy⟩
      · obtain rfl : b = [] := by simpa [bcells] using h0
        obtain rfl : a = [] := List.length_eq_zero_iff.1 h
        exact plain_nil _ y cx cy w
      · exact plain_eq a b bx ox bz oz cx cy w hbx hbz h hl hx hy
  · have hs : sameB a b = false := by
      simp only [sameB, beq_eq_false_iff_ne]
      rintro rfl
      exact h rfl
    rw [hs]
    refine (plain_ne a b x y cx cy w (by simpa using h)).mono fun e w' ⟨he, hw⟩ => ⟨he, hw ▸ Below.refl _ _⟩

theorem bytes_any (a b : List Nat) (x y : Option Addr) (cx cy : Nat) (w : World) (hl : a.length ≤ 9223372036854775807) (hx : Lie w x (bcells a)) (hy : Lie w y (bcells b)) :
    Calls Tryd.prog 21 #[.slice x a.length cx, .slice y b.length cy] w fun e w' => e = .returned (.bool (sameB a b)) ∧ Below w.heap.size w w' := by
  go_enter Tryd.func21, Tryd.ntmps21
  go_wp2_with (go_at_call 30; refine (plain_any a b x y cx cy _ hl hx hy).mono ?_; rintro e w1 ⟨rfl, hb⟩)
  go_ret
  exact ⟨rfl, hb⟩

/-- A list of its own, with marks behind its end. -/
def OwnRow (w : World) (base g cap : Nat) (l : List Nat) (m : Nat) : Prop :=
  w.ownsRow base 5 1 (.slice (some ⟨g, 0, none⟩) (l.length + 2) cap) (l.length + 2) (bcells (l ++ [m, m]))
def GivesOwn (w : World) (l : List Nat) (m : Nat) (e : Ending) (w' : World) : Prop :=
  ∃ g cap, e = .returned (.slice (some ⟨g, 0, none⟩) l.length cap) ∧ OwnRow w' w.heap.size g cap l m ∧ Below w.heap.size w w'

theorem own_any (l : List Nat) (m : Nat) (ao : Option Addr) (cap : Nat) (w : World) (hl : l.length ≤ 140737488351232) (hn : ao = none → l.length = 0 ∧ cap = 0) (hat : Lie w ao (bcells l)) :
    Calls Tryd.prog 9 #[.slice ao l.length cap, .int .u8 m] w (GivesOwn w l m) := by
  obtain ⟨i0, hi, hz0, hz1, hz2⟩ := info_parts infoByte
  go_enter Tryd.func9, Tryd.ntmps9
  go_wp2_with (at_make; refine wpList_make_own _ rfl _ _ 22 rfl w.heap.size 5 i0 (.int .u8 0) 1 Tryd.underlying22 hi hz0 hz1 .i64 .i64 _ (l.length + 2) rfl rfl (by omega) (by rw [hz2]; omega) (by unfold maxLen; omega) (Nat.le_refl _) ?_)
  intro w1 hown1 hgr1
  have hB1 : Below w.heap.size w w1 := (Below.refl _ _).grown hgr1 (Nat.le_refl _) (by intro k hk; cases hk)
  clear hgr1
  go_wp2_with (at_builtin; refine wpl_append rfl (.tmp 10) (.tmp 11) 22 rfl w.heap.size 5 i0 (.int .u8 0) 1 1 Tryd.underlying22 hi hz0 hz1 hz2 rfl (by decide) _ 0 [] rfl hown1 ao l.length cap (bcells l) rfl hn (by simp [bcells]) (hat.below hB1) (bcells_one _) (by unfold maxLen; omega) (by omega) hB1.size ?_)
  intro v2 w2 hown2 hgr2
  have hB2 : Below w.heap.size w w2 := hB1.grown hgr2 hB1.size (fun k hk => (hown1.lt k hk).1)
  clear hgr2 hown1
  go_wp2_with (at_builtin; refine wpl_append rfl (.tmp 13) (.tmp 16) 22 rfl w.heap.size 5 i0 (.int .u8 0) 1 1 Tryd.underlying22 hi hz0 hz1 hz2 rfl (by decide) v2 l.length (bcells l) rfl ?hO (some ⟨w2.heap.size, 0, none⟩) 2 2 (bcells [m, m]) rfl (by simp) (by simp [bcells]) ?hL (bcells_one _) (by unfold maxLen; omega) (by omega) ?hB ?_)
  case hO => simpa using hown2.alloc _
  case hL =>
    refine .inr ⟨_, 0, rfl, by rw [size_new]; omega, fun i hi => ?_⟩
    have hb := blk2 (hp_alloc_new w2 (.cells #[.int .u8 m, .int .u8 m] 5))
    match i, hi with
    | 0, _ => exact hb.1
    | 1, _ => exact hb.2.1
  case hB => rw [size_new]; have := hB2.size; omega
  intro v3 w3 hown3 hgr3
  rw [← bcells_append] at hown3
  have hB3 : Below w.heap.size w w3 := (hB2.alloc hB2.size _).grown hgr3 (by rw [size_new]; have := hB2.size; omega) (fun k hk => (hown2.lt k hk).1)
  obtain ⟨g, cap3, rfl, hc3, hcm, _⟩ := owned_some hown3 (by omega)
  clear hgr3 hown2 hB2 hB1 hi hz0 hz1 hz2
  have HO := Lib.hid hown3
  clear hown3
  have hcap : l.length ≤ cap3 := by omega
  have hcap2 : cap3 ≤ 9223372036854775807 := by unfold maxLen at hcm; omega
  go_wp2_with fail
  go_ret
  exact ⟨g, cap3, rfl, HO.out, hB3⟩

theorem kept_any (l : List Nat) (m g cap : Nat) (ao : Option Addr) (co base : Nat) (w : World) (hl : l.length ≤ 140737488351232) (hown : OwnRow w base g cap l m) (hat : Lie w ao (bcells l)) :
    Calls Tryd.prog 13 #[.slice (some ⟨g, 0, none⟩) l.length cap, .slice ao l.length co, .int .u8 m] w fun e w' => e = .returned (.bool true) ∧ Below w.heap.size w w' := by
  obtain ⟨g', cap', e, hc3, hcm, hb, hlt⟩ := owned_some hown (by omega)
  simp only [Value.slice.injEq, Option.some.injEq, Addr.mk.injEq, and_true, true_and] at e
  obtain ⟨rfl, rfl⟩ := e
  have hcap : l.length + 2 ≤ cap := hc3
  have hcap2 : cap ≤ 9223372036854775807 := by unfold maxLen at hcm; omega
  have hs : sameB l l = true := by simp [sameB]
  have hnn : ((l.length : Int) != (l.length : Int)) = false := by simp
  have k1 : w.cell? ⟨g, l.length, none⟩ = some (.int .u8 m) := by
    rw [World.ownsRow.cellAt hown l.length (by omega), bcells_append]
    rw [List.getElem?_append_right (by simp [bcells])]
    simp [bcells]
  have k2 : w.cell? ⟨g, l.length + 1, none⟩ = some (.int .u8 m) := by
    rw [World.ownsRow.cellAt hown (l.length + 1) (by omega), bcells_append]
    rw [List.getElem?_append_right (by simp [bcells])]
    simp [bcells]
  have HL : Hid (Lie w (some ⟨g, 0, none⟩) (bcells l)) := .inr ⟨g, 0, rfl, hlt, fun i hi => by
    rw [bcells_len] at hi
    rw [Nat.zero_add, World.ownsRow.cellAt hown i (by omega), bcells_append, List.getElem?_append_left (by simpa [bcells] using hi)]⟩
  have hmm : ((m : Int) == (m : Int)) = true := by simp
  have HAT := Lib.hid hat
  clear hown hat
  go_enter Tryd.func13, Tryd.ntmps13
  go_wp2_with fail
  refine (plain_any l l _ ao cap co _ (by omega) HL.out HAT.out).mono ?_; rintro e w1 ⟨rfl, hb1⟩
  have k1' : w1.cell? ⟨g, l.length, none⟩ = some (.int .u8 m) := cell_step k1 hb1
  have k2' : w1.cell? ⟨g, l.length + 1, none⟩ = some (.int .u8 m) := cell_step k2 hb1
  go_wp2_with fail
  go_ret
  exact ⟨rfl, hb1⟩
end Go.Proofs.YtgpkenbefolegaaDoor.byt
