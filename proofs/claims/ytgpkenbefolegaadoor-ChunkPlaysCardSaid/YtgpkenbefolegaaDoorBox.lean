/-
  Contracts of chunk's Box: may, New, Put.
-/
import Derived.Test.YtgpkenbefolegaaDoorSameP
import Derived.Test.YtgpkenbefolegaaDoorBoxPlain
import Derived.Test.YtgpkenbefolegaaDoorMapKit
import Derived.Test.YtgpkenbefolegaaDoorKit2
import Derived.Deep.QuietTactic
import Derived.BigQuiet
import Derived.Deep.RegionHeld3
namespace Go.Proofs.YtgpkenbefolegaaDoor.box
open Go.ChangeShapes Go.WideShapes Go.ChangeAt Go.RowKit
open Go.Maps
open Go.Proofs.YtgpkenbefolegaaDoor.kit Go.Proofs.YtgpkenbefolegaaDoor.mapkit Go.Proofs.YtgpkenbefolegaaDoor.byt Go.Proofs.YtgpkenbefolegaaDoor.sum Go.Proofs.YtgpkenbefolegaaDoor.cut
set_option linter.unusedVariables false
set_option linter.unusedSimpArgs false
set_option maxHeartbeats 1000000
set_option maxRecDepth 100000

theorem may_ok (p : PieceV) (w : World) (hl : p.data.length ≤ 9223372036854775807) (ht : p.tot ≤ 9223372036854775807) :
    Calls Tryd.prog 31 #[pval p] w fun e w' => e = .returned (.bool (mayP p)) ∧ Below w.heap.size w w' := by
  obtain ⟨px, pt, ps, pa, pc, pd⟩ := p
  obtain ⟨n, hn⟩ : ∃ n, n = pd.length := ⟨_, rfl⟩
  have hm : mayP ⟨px, pt, ps, pa, pc, pd⟩ = (if pt < 1 ∨ 16 < pt ∨ px < 0 ∨ pt ≤ px then false else if px < pt - 1 then n == 512 else decide (n ≤ 512) && (decide (0 < n) || pt == 1)) := by simp only [mayP, hn]
  rw [hm]
  simp only [pval, ← hn] at *
  clear hm hn
  by_cases h1 : pt < 1
  · rw [if_pos (.inl h1)]
    go_enter Tryd.func31, Tryd.ntmps31
    go_wp2_with fail
    go_ret
    exact ⟨rfl, below_new1 _ _⟩
  by_cases h2 : 16 < pt
  · rw [if_pos (.inr (.inl h2))]
    go_enter Tryd.func31, Tryd.ntmps31
    go_wp2_with fail
    go_ret
    exact ⟨rfl, below_new1 _ _⟩
  by_cases h3 : px < 0
  · rw [if_pos (.inr (.inr (.inl h3)))]
    go_enter Tryd.func31, Tryd.ntmps31
    go_wp2_with fail
    go_ret
    exact ⟨rfl, below_new1 _ _⟩
  by_cases h4 : pt ≤ px
  · rw [if_pos (.inr (.inr (.inr h4)))]
    go_enter Tryd.func31, Tryd.ntmps31
    go_wp2_with fail
    go_ret
    exact ⟨rfl, below_new1 _ _⟩
  rw [if_neg (by omega)]
  by_cases h5 : px < pt - 1
  · rw [if_pos h5]
    by_cases h6 : n = 512
    · subst h6
      go_enter Tryd.func31, Tryd.ntmps31
      go_wp2_with fail
      go_ret
      exact ⟨rfl, below_new1 _ _⟩
    · have h7 : (n == 512) = false := by simp [h6]
      rw [h7]
      have h8 : ¬ (n : Int) = 512 := by omega
      go_enter Tryd.func31, Tryd.ntmps31
      go_wp2_with fail
      go_ret
      refine ⟨?_, below_new1 _ _⟩
      simp [h8]
  · rw [if_neg h5]
    by_cases h6 : n ≤ 512
    · by_cases h7 : 0 < n
      · go_enter Tryd.func31, Tryd.ntmps31
        go_wp2_with fail
        go_ret
        refine ⟨?_, below_new1 _ _⟩
        simp [h6, h7]
      · obtain rfl : n = 0 := by omega
        by_cases h8 : pt = 1
        all_goals
          go_enter Tryd.func31, Tryd.ntmps31
          go_wp2_with fail
          go_ret
          refine ⟨?_, below_new1 _ _⟩
          simp [h8]
    · go_enter Tryd.func31, Tryd.ntmps31
      go_wp2_with fail
      go_ret
      refine ⟨?_, below_new1 _ _⟩
      simp [h6]

theorem keyedInt : Keyed Tryd.prog 3 := int_keyed Tryd.underlying3
def key (i : Nat) : Lit := .int .i64 i
theorem key_of (i : Nat) (hi : i < 4096) : keyOf Tryd.prog 3 (.int .i64 i) = some (key i) :=
  keyOf_int_mk Tryd.underlying3 (WalkArith.wf_i64 (by omega))
theorem key_lit (i : Nat) : WideAt.IsKeyLit (key i) := trivial
theorem key_same {i j : Nat} : (key i).sameKey (key j) = true ↔ i = j := by simp [key, Lit.sameKey]; exact Int.ofNat_inj
theorem zeroB (w : World) : (zeroValue 22).run Tryd.prog w = .ok (.slice none 0 0) w := by kernel_rfl

/-- What a box's map holds: each piece's bytes, in a row of the call's own. -/
def Held (w : World) (base : Nat) (f : Lit → Option Value) (g : Nat → Option (List Nat)) : Prop :=
  ∀ i, i < 16 → match g i with
    | none => f (key i) = none
    | some d => ∃ a c, f (key i) = some (.slice a d.length c) ∧ w.ownsRow base 5 1 (.slice a d.length c) d.length (bcells d)

/-- A box in memory. -/
structure BoxAt (w : World) (base b m : Nat) (V : BoxV) : Prop where
  lob : base ≤ b
  lom : base ≤ m
  blk : w.heap[b]? = some (.cells #[.int .i64 V.tot, .int .u32 V.sum, .map (some m)] 59 (0, 0))
  map : ∃ f, MapAt w Tryd.prog 3 m f V.cnt ∧ Held w base f V.get
  wf : WF V

theorem own_keep' {S : Nat → Prop} {w w' : World} {base : Nat} {e : TypeId} {size : Nat} {v : Value} {n : Nat} {xs : List Value} (h : w.ownsRow base e size v n xs) (hk : Keep S w w') (hS : ∀ k cur, w.heap[k]? = some (.cells cur e (0, 0)) → ¬ S k) : w'.ownsRow base e size v n xs := by
  obtain ⟨h1, h2⟩ := h
  refine ⟨h1, ?_⟩
  rcases h2 with h2 | ⟨g, cap, cur, hv, hg, hh, r⟩
  · exact .inl h2
  · exact .inr ⟨g, cap, cur, hv, hg, (hk.block g (Array.getElem?_eq_some_iff.1 hh).1 (hS g cur hh)).trans hh, r⟩

theorem Held.keep {S : Nat → Prop} {w w' : World} {base : Nat} {f : Lit → Option Value} {g : Nat → Option (List Nat)} (h : Held w base f g) (hk : Keep S w w') (hS : ∀ k cur, w.heap[k]? = some (.cells cur 5 (0, 0)) → ¬ S k) : Held w' base f g := by
  intro i hi
  have := h i hi
  cases hg : g i with
  | none => rw [hg] at this; exact this
  | some d =>
    rw [hg] at this
    obtain ⟨a, c, h1, h2⟩ := this
    exact ⟨a, c, h1, own_keep' h2 hk hS⟩
theorem BoxAt.keep {S : Nat → Prop} {w w' : World} {base b m : Nat} {V : BoxV} (h : BoxAt w base b m V) (hk : Keep S w w') (h1 : ¬ S b) (h2 : ¬ S m) (hS : ∀ k cur, w.heap[k]? = some (.cells cur 5 (0, 0)) → ¬ S k) : BoxAt w' base b m V := by
  obtain ⟨a1, a2, a3, ⟨f, a4, a5⟩, a6⟩ := h
  exact ⟨a1, a2, hk.hp a3 h1, ⟨f, a4.keep hk h2, a5.keep hk hS⟩, a6⟩
theorem BoxAt.below {w w' : World} {base b m : Nat} {V : BoxV} (h : BoxAt w base b m V) (hb : Below w.heap.size w w') : BoxAt w' base b m V :=
  h.keep (S := fun _ => False) (Keep.of_below hb) id id (fun _ _ _ => id)
theorem BoxAt.lt {w : World} {base b m : Nat} {V : BoxV} (h : BoxAt w base b m V) : b < w.heap.size ∧ m < w.heap.size ∧ b ≠ m := by
  obtain ⟨f, hm, _⟩ := h.map
  obtain ⟨es, clock, he⟩ := hm.obj
  refine ⟨(kit.blk h.blk).2.2, hm.lt, fun e => ?_⟩
  subst e
  rw [h.blk] at he
  cases he
/-- A row of bytes is neither a box's block nor its map. -/
theorem BoxAt.notByte {w : World} {base b m : Nat} {V : BoxV} (h : BoxAt w base b m V) : ∀ k cur, w.heap[k]? = some (.cells cur 5 (0, 0)) → ¬ (k = b ∨ k = m) := by
  intro k cur hh hkk
  obtain ⟨f, hm, _⟩ := h.map
  obtain ⟨es, clock, he⟩ := hm.obj
  rcases hkk with rfl | rfl
  · rw [h.blk] at hh
    simp at hh
  · rw [he] at hh
    cases hh

theorem new_ok (w : World) : Calls Tryd.prog 16 #[] w fun e w' => ∃ b m, e = .returned (.pointer (some ⟨b, 0, none⟩)) ∧ BoxAt w' w.heap.size b m empty ∧ Below w.heap.size w w' := by
  have hm := map_made w Tryd.prog 3
  have hmm := @run_makeMap Tryd.prog
  have hs : (w.alloc (.map #[] 0)).heap.size = w.heap.size + 1 := size_new _ _
  go_enter Tryd.func16, Tryd.ntmps16
  go_wp2_with fail
  exact bodyPost_ret (v := .pointer (some ⟨w.heap.size + 1, 0, none⟩)) (by simp [results, Tryd.results16, go_sem]) rfl
    ⟨_, w.heap.size, rfl, ⟨by omega, Nat.le_refl _, by rw [← hs]; exact hp_alloc_new _ _, ⟨_, hm.alloc _, fun i hi => rfl⟩, empty_wf⟩, below_new2 _ _ _⟩
end Go.Proofs.YtgpkenbefolegaaDoor.box
