/-
  Contracts of codec.more, codec.Sum and of the reference's Sum.
-/
import Derived.Test.YtgpkenbefolegaaDoorProg
import Derived.Test.YtgpkenbefolegaaDoorSumPlain
import Derived.Test.YtgpkenbefolegaaDoorBytes
import Derived.Lib.Hide
import Derived.BigQuiet
import Derived.Lib.LaidTab
namespace Go.Proofs.YtgpkenbefolegaaDoor.sum
open Go.ChangeShapes Go.WideShapes Go.ChangeAt Go.RowKit
open Go.Proofs.YtgpkenbefolegaaDoor.kit Go.Proofs.YtgpkenbefolegaaDoor.byt
set_option linter.unusedVariables false
set_option linter.unusedSimpArgs false
set_option maxHeartbeats 1000000

/-- The table lies at block 0. -/
def Tab (w : World) : Prop := ∀ i, i < 16 → w.cell? ⟨0, i, none⟩ = some (.int .u32 (q16 i))

theorem more_ok (s : Nat) (l : List Nat) (b off cap : Nat) (w : World) (hs : s < 4294967296) (hl : l.length ≤ 9223372036854775807) (hby : Byt l) (ht : Tab w)
    (hat : ∀ i, i < (bcells l).length → w.cell? ⟨b, off + i, none⟩ = (bcells l)[i]?) :
    Calls Tryd.prog 36 #[.int .u32 s, .slice (some ⟨b, off, none⟩) l.length cap] w
      fun e w' => e = .returned (.int .u32 (moreL s l)) ∧ w = w' := by
  have HT := Lib.hid ht
  have HA := Lib.hid hat
  have HBy := Lib.hid hby
  clear ht hat hby
  go_enter Tryd.func36, Tryd.ntmps36
  go_wp2_with fail
  go_loop [0, 9] (fun t i => ∃ k : Nat, k ≤ l.length ∧ i = .int .i64 k ∧ t = .int .u32 (moreL s (l.take k))) (fun _ i => l.length - (intOf i).toNat)
  case atStart => exact ⟨0, Nat.zero_le _, rfl, rfl⟩
  case round =>
    obtain ⟨k, hk, rfl, rfl⟩ := hrel
    by_cases hlt : k < l.length
    · obtain ⟨x, hx⟩ : ∃ x, x = l[k] := ⟨_, rfl⟩
      have hx' : w.cell? ⟨b, off + k, none⟩ = some (.int .u8 x) := by rw [HA.out k (by simpa [bcells] using hlt), hx]; simp [bcells, hlt]
      have hr : x < 256 := HBy.out x (by rw [hx]; exact List.getElem_mem hlt)
      have HS : Hid (moreL s (l.take (k + 1)) = moreB (moreL s (l.take k)) x) := by
        simp only [Hid]; rw [List.take_succ_eq_append_getElem hlt, moreL_snoc, hx]
      obtain ⟨u, hu⟩ : ∃ u, u = moreL s (l.take k) := ⟨_, rfl⟩
      have hul : u < 4294967296 := by rw [hu]; exact moreL_lt _ _ hs
      rw [← hu] at HS ⊢
      obtain ⟨u', hu'⟩ : ∃ u', u' = half u x := ⟨_, rfl⟩
      have hul' : u' < 4294967296 := by rw [hu']; exact half_lt _ _ hul
      have e1 := u32_xor_nat u x hul (by omega)
      have hx1 : u ^^^ x < 4294967296 := xor_lt32 hul (by omega)
      have e2 : bits .and .u32 ((u ^^^ x : Nat) : Int) 15 = (((u ^^^ x) % 16 : Nat) : Int) := by
        rw [← nat_mask4]; exact u32_and_nat _ 15 hx1 (by omega)
      have q1 := q16_lt ((u ^^^ x) % 16) (by omega)
      have t1 := HT.out ((u ^^^ x) % 16) (by omega)
      have e3 : bits .xor .u32 ((u : Int) / 16) (q16 ((u ^^^ x) % 16) : Int) = (u' : Int) := by
        rw [hu', half]; exact u32_xor_nat (u / 16) _ (by omega) q1
      have f1 := u32_xor_nat u' (x / 16) hul' (by omega)
      have fx1 : u' ^^^ (x / 16) < 4294967296 := xor_lt32 hul' (by omega)
      have f2 : bits .and .u32 ((u' ^^^ (x / 16) : Nat) : Int) 15 = (((u' ^^^ (x / 16)) % 16 : Nat) : Int) := by
        rw [← nat_mask4]; exact u32_and_nat _ 15 fx1 (by omega)
      have q2 := q16_lt ((u' ^^^ (x / 16)) % 16) (by omega)
      have t2 := HT.out ((u' ^^^ (x / 16)) % 16) (by omega)
      have f3 : bits .xor .u32 ((u' : Int) / 16) (q16 ((u' ^^^ (x / 16)) % 16) : Int) = ((half u' (x / 16) : Nat) : Int) := u32_xor_nat (u' / 16) _ (by omega) q2
      have f0 : ((x / 16 : Nat) : Int) = (x : Int) / 16 := by omega
      have m1 : (u ^^^ x) % 16 < 16 := by omega
      have m2 : (u' ^^^ (x / 16)) % 16 < 16 := by omega
      rw [f0] at f1
      have HU := Lib.hid hu'
      generalize (u ^^^ x) % 16 = i1 at *
      generalize (u' ^^^ (x / 16)) % 16 = i2 at *
      clear hu hu' hx f0
      go_wp2_with fail
      go_round
      case rel => exact ⟨k + 1, by omega, by go_num, by rw [HS.out, moreB, ← HU.out]⟩
      case measure => simp [intOf]; omega
    · have HE : Hid (Ending.returned (.int .u32 (moreL s (l.take k))) = Ending.returned (.int .u32 (moreL s l))) := by rw [List.take_of_length_le (by omega)]; rfl
      go_wp2_with fail
      go_ret
      exact ⟨HE.out, rfl⟩

theorem more_nil (s : Nat) (a : Option Addr) (cap : Nat) (w : World) :
    Calls Tryd.prog 36 #[.int .u32 s, .slice a 0 cap] w fun e w' => e = .returned (.int .u32 s) ∧ w = w' := by
  go_enter Tryd.func36, Tryd.ntmps36
  go_wp2_with fail
  refine wp_loop_rounds 1 ?_
  rw [rounds_succ]
  go_wp2_with fail
  go_ret
  exact ⟨rfl, rfl⟩

theorem more_any (s : Nat) (l : List Nat) (a : Option Addr) (cap : Nat) (w : World) (hs : s < 4294967296) (hl : l.length ≤ 9223372036854775807) (hby : Byt l) (ht : Tab w) (hat : Lie w a (bcells l)) :
    Calls Tryd.prog 36 #[.int .u32 s, .slice a l.length cap] w fun e w' => e = .returned (.int .u32 (moreL s l)) ∧ w = w' := by
  rcases hat with h | ⟨b, off, rfl, _, hc⟩
  · obtain rfl : l = [] := by simpa [bcells] using h
    exact more_nil s a cap w
  · exact more_ok s l b off cap w hs hl hby ht hc

theorem not32 (u : Nat) (h : u < 4294967296) : 4294967295 ^^^ u = 4294967295 - u := by
  have e : (BitVec.allOnes 32 ^^^ BitVec.ofNat 32 u) = ~~~ BitVec.ofNat 32 u := BitVec.allOnes_xor
  have e2 := congrArg BitVec.toNat e
  rw [BitVec.toNat_xor, BitVec.toNat_not, BitVec.toNat_allOnes, BitVec.toNat_ofNat, Nat.mod_eq_of_lt (by omega)] at e2
  exact e2
theorem max_xor (u : Nat) (h : u < 4294967296) : bits .xor .u32 IntKind.u32.max (u : Int) = ((4294967295 - u : Nat) : Int) := by
  rw [← not32 u h]
  exact u32_xor_nat 4294967295 u (by omega) h
theorem sum_any (l : List Nat) (a : Option Addr) (cap : Nat) (w : World) (hl : l.length ≤ 9223372036854775807) (hby : Byt l) (ht : Tab w) (hat : Lie w a (bcells l)) :
    Calls Tryd.prog 28 #[.slice a l.length cap] w fun e w' => e = .returned (.int .u32 (sumL l)) ∧ w = w' := by
  have hm := moreL_lt l 4294967295 (by omega)
  have hc := more_any 4294967295 l a cap w (by omega) hl hby ht hat
  obtain ⟨u, hu⟩ : ∃ u, u = moreL 4294967295 l := ⟨_, rfl⟩
  rw [← hu] at hc hm
  have HU := Lib.hid hu
  have HC := Lib.hid hc
  clear hc hu hat ht hby
  go_enter Tryd.func28, Tryd.ntmps28
  go_wp2_with (go_at_call 36; refine HC.out.mono ?_; rintro e w' ⟨rfl, rfl⟩)
  go_ret
  refine ⟨?_, rfl⟩
  have e := max_xor u hm
  have e2 : sumL l = 4294967295 - u := by rw [sumL, HU.out]
  rw [e2]
  show Ending.returned (.int .u32 (bits .xor .u32 IntKind.u32.max (u : Int))) = _
  rw [e]

def refC (l : List Nat) (i : Nat) : Nat := bits8 (l.getD (i / 8) 0) (i % 8) (moreL 4294967295 (l.take (i / 8)))
theorem bit1_lt (u b : Nat) (h : u < 4294967296) : bit1 u b < 4294967296 := by
  unfold bit1
  split
  · exact xor_lt32 (by omega) (by omega)
  · omega
theorem bits8_lt (x k u : Nat) (h : u < 4294967296) : bits8 x k u < 4294967296 := by
  induction k with
  | zero => exact h
  | succ k ih => exact bit1_lt _ _ ih
theorem refC_lt (l : List Nat) (i : Nat) : refC l i < 4294967296 := bits8_lt _ _ _ (moreL_lt _ _ (by omega))
theorem refC_succ (l : List Nat) (hb : Byt l) (i : Nat) (h : i < 8 * l.length) : refC l (i + 1) = bit1 (refC l i) (l.getD (i / 8) 0 / 2 ^ (i % 8) % 2) := by
  have hi : i / 8 < l.length := by omega
  by_cases e : i % 8 = 7
  · have e1 : (i + 1) / 8 = i / 8 + 1 := by omega
    have e2 : (i + 1) % 8 = 0 := by omega
    unfold refC
    rw [e1, e2, e, bits8, List.take_succ_eq_append_getElem hi, moreL_snoc]
    have hx : l.getD (i / 8) 0 = l[i / 8] := by simp [hi]
    rw [hx, ← bits8_more _ _ (hb _ (List.getElem_mem hi))]
    rfl
  · have e1 : (i + 1) / 8 = i / 8 := by omega
    have e2 : (i + 1) % 8 = i % 8 + 1 := by omega
    unfold refC
    rw [e1, e2]
    rfl
theorem refC_end (l : List Nat) : refC l (8 * l.length) = moreL 4294967295 l := by
  unfold refC
  rw [show 8 * l.length / 8 = l.length by omega, show 8 * l.length % 8 = 0 by omega, List.take_length]
  rfl

theorem low_bits (c x j : Nat) (hc : c < 4294967296) (hx : x < 256) (hj : j < 8) : bits .xor .u32 (bits .and .u32 (c : Int) 1) (bits .and .u32 ((x : Int) / 2 ^ j % 4294967296) 1) = ((c % 2 ^^^ x / 2 ^ j % 2 : Nat) : Int) := by
  have h1 : bits .and .u32 (c : Int) 1 = ((c % 2 : Nat) : Int) := by rw [← nat_mask1]; exact u32_and_nat c 1 hc (by omega)
  have h2 : ((x : Int) / 2 ^ j % 4294967296) = ((x / 2 ^ j : Nat) : Int) := by
    have hd : x / 2 ^ j ≤ x := Nat.div_le_self _ _
    have e : ((x / 2 ^ j : Nat) : Int) = (x : Int) / 2 ^ j := by simp
    rw [← e]
    generalize x / 2 ^ j = y at *
    omega
  have hd : x / 2 ^ j ≤ x := Nat.div_le_self _ _
  have h3 : bits .and .u32 ((x / 2 ^ j : Nat) : Int) 1 = ((x / 2 ^ j % 2 : Nat) : Int) := by rw [← nat_mask1]; exact u32_and_nat _ 1 (by omega) (by omega)
  rw [h1, h2, h3]
  exact u32_xor_nat _ _ (by omega) (by omega)

theorem refSum_ok (l : List Nat) (b off cap : Nat) (w : World) (hl : l.length ≤ 1152921504606846975) (hby : Byt l)
    (hat : ∀ i, i < (bcells l).length → w.cell? ⟨b, off + i, none⟩ = (bcells l)[i]?) :
    Calls Tryd.prog 19 #[.slice (some ⟨b, off, none⟩) l.length cap] w
      fun e w' => e = .returned (.int .u32 (sumL l)) ∧ w = w' := by
  have HA := Lib.hid hat
  have HBy := Lib.hid hby
  clear hat hby
  go_enter Tryd.func19, Tryd.ntmps19
  go_wp2_with fail
  go_loop [3, 4] (fun t i => ∃ k : Nat, k ≤ 8 * l.length ∧ i = .int .i64 k ∧ t = .int .u32 (refC l k)) (fun _ i => 8 * l.length - (intOf i).toNat)
  case atStart => exact ⟨0, Nat.zero_le _, rfl, by simp [refC, bits8, moreL]⟩
  case round =>
    obtain ⟨k, hk, rfl, rfl⟩ := hrel
    have hcl := refC_lt l k
    by_cases hlt : k < 8 * l.length
    · have hi : k / 8 < l.length := by omega
      obtain ⟨x, hx⟩ : ∃ x, x = l[k / 8] := ⟨_, rfl⟩
      have hx' : w.cell? ⟨b, off + k / 8, none⟩ = some (.int .u8 x) := by rw [HA.out (k / 8) (by simpa [bcells] using hi), hx]; simp [bcells, hi]
      have hr : x < 256 := HBy.out x (by rw [hx]; exact List.getElem_mem hi)
      have hlt' : (k : Int) < 8 * (l.length : Int) := by omega
      have hi' : (k : Int) / 8 < (l.length : Int) := by omega
      have HS : Hid (refC l (k + 1) = bit1 (refC l k) (x / 2 ^ (k % 8) % 2)) := by
        simp only [Hid]; rw [refC_succ l HBy.out k hlt, hx]; simp [hi]
      obtain ⟨c, hc⟩ : ∃ c, c = refC l k := ⟨_, rfl⟩
      rw [← hc] at HS hcl ⊢
      clear hc hx
      have e1 := low_bits c x (k % 8) hcl hr (by omega)
      have e2 : bits .xor .u32 ((c : Int) / 2) 3988292384 = ((c / 2 ^^^ 3988292384 : Nat) : Int) := u32_xor_nat (c / 2) 3988292384 (by omega) (by omega)
      by_cases hb : (c % 2 ^^^ x / 2 ^ (k % 8) % 2) = 1
      · have HB : Hid (bit1 c (x / 2 ^ (k % 8) % 2) = c / 2 ^^^ 3988292384) := by simp only [Hid, bit1]; rw [if_pos hb]
        rw [hb] at e1
        clear hb
        go_wp2_with fail
        go_round
        case rel => exact ⟨k + 1, by omega, by go_num, by rw [HS.out, HB.out]⟩
        case measure => simp [intOf]; omega
      · have HB : Hid (bit1 c (x / 2 ^ (k % 8) % 2) = c / 2) := by simp only [Hid, bit1]; rw [if_neg hb]
        obtain ⟨z, hz⟩ : ∃ z : Nat, z = (c % 2 ^^^ x / 2 ^ (k % 8) % 2) := ⟨_, rfl⟩
        rw [← hz] at e1 hb
        have hz1 : ((z : Int) == 1) = false := by simp; omega
        clear hb hz
        go_wp2_with fail
        go_round
        case rel => exact ⟨k + 1, by omega, by go_num, by rw [HS.out, HB.out]; go_num⟩
        case measure => simp [intOf]; omega
    · obtain rfl : k = 8 * l.length := by omega
      have e := max_xor (refC l (8 * l.length)) hcl
      have e2 : Hid (sumL l = 4294967295 - refC l (8 * l.length)) := by simp only [Hid]; rw [sumL, refC_end]
      generalize refC l (8 * l.length) = c at *
      go_wp2_with fail
      go_ret
      exact ⟨by rw [e2.out]; first | rfl | (show Ending.returned (.int .u32 (bits .xor .u32 IntKind.u32.max (c : Int))) = _; rw [e]), rfl⟩

theorem refSum_nil (a : Option Addr) (cap : Nat) (w : World) :
    Calls Tryd.prog 19 #[.slice a 0 cap] w fun e w' => e = .returned (.int .u32 (sumL [])) ∧ w = w' := by
  go_enter Tryd.func19, Tryd.ntmps19
  go_wp2_with fail
  refine wp_loop_rounds 1 ?_
  rw [rounds_succ]
  go_wp2_with fail
  go_ret
  exact ⟨rfl, rfl⟩

theorem refSum_any (l : List Nat) (a : Option Addr) (cap : Nat) (w : World) (hl : l.length ≤ 1152921504606846975) (hby : Byt l) (hat : Lie w a (bcells l)) :
    Calls Tryd.prog 19 #[.slice a l.length cap] w fun e w' => e = .returned (.int .u32 (sumL l)) ∧ w = w' := by
  rcases hat with h | ⟨b, off, rfl, _, hc⟩
  · obtain rfl : l = [] := by simpa [bcells] using h
    exact refSum_nil a cap w
  · exact refSum_ok l b off cap w hl hby hc
end Go.Proofs.YtgpkenbefolegaaDoor.sum
