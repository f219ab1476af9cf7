/-
  A log of purse/peer.proposal in memory, and what its functions do (printed by wip/mklog.py).
-/
import Derived.Test.YtcaakiaenfkeaaaGreatN01
import Derived.Test.YtcaakiaenfkeaaaGreatProg
import Derived.Lib.Hide
import Derived.Deep.RegionWith
import Derived.Deep.QuietTactic
import Derived.Deep.RegionHeld3
import Derived.BigQuiet
import Derived.RangeFuncNested
import Derived.RangeFuncBound
import Derived.RangeFuncCalls
import Derived.RangeFuncLeaves
import Derived.RangeFuncFrom
import Derived.Shelf.Abstract
import Derived.Shelf.RegionOpen
import Derived.OwnWalkIn
import Derived.TacticsInMore
import Derived.LoopNIn
import Derived.LoopIn
namespace Go.Proofs.YtcaakiaenfkeaaaGreat.logq
open Go.ChangeShapes Go.WideShapes Go.ChangeAt Go.RowKit
open Go.Proofs.YtcaakiaenfkeaaaGreat.kit
set_option linter.unusedVariables false
set_option linter.unusedSimpArgs false
set_option maxHeartbeats 1000000
set_option maxRecDepth 100000

abbrev El := (Option Addr × Nat × Nat) × (Option Addr × Nat × Nat)
def cel (c : El × Bool) : List Value := [.slice c.1.1.1 c.1.1.2.1 c.1.1.2.2, .slice c.1.2.1 c.1.2.2.1 c.1.2.2.2, .bool c.2]
def flat (l : List (El × Bool)) : List Value := l.flatMap cel
theorem flat_cons (x : El × Bool) (l : List (El × Bool)) : flat (x :: l) = cel x ++ flat l := by simp [flat]
theorem flat_len (l : List (El × Bool)) : (flat l).length = l.length * 3 := by
  induction l with
  | nil => rfl
  | cons x l ih => rw [flat_cons, List.length_append, ih]; simp [cel]; omega
theorem flat_one (l : List (El × Bool)) : ∀ u ∈ flat l, u.oneCell' = true := by
  intro u hu
  simp only [flat, List.mem_flatMap] at hu
  obtain ⟨x, _, hx⟩ := hu
  simp only [cel, List.mem_cons, List.not_mem_nil, or_false] at hx
  rcases hx with rfl | rfl | rfl <;> rfl
theorem flat_append (a b : List (El × Bool)) : flat (a ++ b) = flat a ++ flat b := by simp [flat]
theorem flat_get (l : List (El × Bool)) : ∀ i (h : i < l.length) j, j < 3 → (flat l)[i * 3 + j]? = (cel l[i])[j]? := by
  induction l with
  | nil => intro i hi; simp at hi
  | cons x l ih =>
    intro i hi j hj
    have h4 : (cel x).length = 3 := rfl
    rw [flat_cons]
    cases i with
    | zero => rw [List.getElem?_append_left (by omega)]; simp
    | succ i =>
      rw [List.getElem?_append_right (by omega), h4, show (i + 1) * 3 + j - 3 = i * 3 + j by omega, ih i (by simpa using hi) j hj]
      rfl
theorem flat_drop (l : List (El × Bool)) (k : Nat) : flat (l.drop k) = (flat l).drop (k * 3) := by
  induction l generalizing k with
  | nil => simp [flat]
  | cons x l ih =>
    cases k with
    | zero => simp
    | succ k => rw [flat_cons, List.drop_succ_cons, ih, show (k + 1) * 3 = k * 3 + 3 by omega]; rfl
theorem flat_set (l : List (El × Bool)) (k : Nat) (x : El) (y : Bool) : flat (l.set k (x, y)) = (((flat l).set (k * 3) (.slice x.1.1 x.1.2.1 x.1.2.2)).set (k * 3 + 1) (.slice x.2.1 x.2.2.1 x.2.2.2)).set (k * 3 + 2) (.bool y) := by
  induction l generalizing k with
  | nil => simp [flat]
  | cons u l ih =>
    cases k with
    | zero => simp [flat, cel]
    | succ k => rw [List.set_cons_succ, flat_cons, flat_cons, ih]; simp only [cel, show (k + 1) * 3 = k * 3 + 3 by omega, show k * 3 + 3 + 1 = k * 3 + 1 + 3 by omega, show k * 3 + 3 + 2 = k * 3 + 2 + 3 by omega, List.cons_append, List.nil_append, List.set_cons_succ]

/-- A log lies in memory. -/
def LogAt (w : World) (base b : Nat) (f m : Int) (cs : List (El × Bool)) : Prop :=
  base ≤ b ∧ ∃ a c, w.heap[b]? = some (.cells #[.int .i64 f, .int .i64 m, .slice a cs.length c] 123 (0, 0)) ∧ w.ownsRow base 125 3 (.slice a cs.length c) cs.length (flat cs)
structure Fit (f m : Int) (cs : List (El × Bool)) : Prop where
  f1 : 1 ≤ f
  f2 : f ≤ 1099511627776
  m1 : 1 ≤ m
  m2 : m ≤ 1024
  len : (cs.length : Int) ≤ m

theorem own_below {w w' : World} {base : Nat} {e : TypeId} {size : Nat} {v : Value} {n : Nat} {xs : List Value} (h : w.ownsRow base e size v n xs) (hb : Below w.heap.size w w') : w'.ownsRow base e size v n xs := by
  obtain ⟨h1, h2⟩ := h
  refine ⟨h1, ?_⟩
  rcases h2 with h2 | ⟨g, cap, cur, hv, hg, hh, r⟩
  · exact .inl h2
  · exact .inr ⟨g, cap, cur, hv, hg, hp_step hh hb, r⟩
theorem own_mono {w : World} {base base' : Nat} {e : TypeId} {size : Nat} {v : Value} {n : Nat} {xs : List Value} (h : w.ownsRow base e size v n xs) (hb : base' ≤ base) : w.ownsRow base' e size v n xs := by
  obtain ⟨h1, h2⟩ := h
  refine ⟨h1, ?_⟩
  rcases h2 with h2 | ⟨g, cap, cur, hv, hg, hh, r⟩
  · exact .inl h2
  · exact .inr ⟨g, cap, cur, hv, by omega, hh, r⟩
/-- The rows lie in a block that another block is not. -/
theorem own_kept {w w' : World} {base : Nat} {e : TypeId} {size n : Nat} {a : Option Addr} {cap : Nat} {xs : List Value} (h : w.ownsRow base e size (.slice a n cap) n xs) (hk : ∀ g, a = some ⟨g, 0, none⟩ → w'.heap[g]? = w.heap[g]?) : w'.ownsRow base e size (.slice a n cap) n xs := by
  obtain ⟨h1, h2⟩ := h
  refine ⟨h1, ?_⟩
  rcases h2 with h2 | ⟨g', cap', cur, hv, hg, hh, r⟩
  · exact .inl h2
  · have e1 : a = some ⟨g', 0, none⟩ := by simp only [Value.slice.injEq] at hv; exact hv.1
    exact .inr ⟨g', cap', cur, hv, hg, (hk g' e1).trans hh, r⟩
/-- What the rows are: where they lie, each cell. -/
theorem own_open {w : World} {base : Nat} {a : Option Addr} {c n : Nat} {cs : List (El × Bool)} (h : w.ownsRow base 125 3 (.slice a n c) n (flat cs)) (hn : n = cs.length) :
    n ≤ c ∧ c ≤ maxLen ∧ (a = none → n = 0 ∧ c = 0) ∧ ∀ k (hk : k < cs.length), ∃ g, a = some ⟨g, 0, none⟩ ∧ base ≤ g ∧ g < w.heap.size ∧ (w.cell? ⟨g, k * 3, none⟩ = some (.slice cs[k].1.1.1 cs[k].1.1.2.1 cs[k].1.1.2.2) ∧ w.cell? ⟨g, k * 3 + 1, none⟩ = some (.slice cs[k].1.2.1 cs[k].1.2.2.1 cs[k].1.2.2.2)) ∧ w.cell? ⟨g, k * 3 + 2, none⟩ = some (.bool cs[k].2) ∧ (∃ cur, w.heap[g]? = some (.cells cur 125 (0, 0))) := by
  subst hn
  rcases h.2 with ⟨e, hz⟩ | ⟨g, cap, cur, e, hg, hh, hc, hm, hsz, hx⟩
  · simp only [Value.slice.injEq] at e
    obtain ⟨rfl, e1, rfl⟩ := e
    exact ⟨by omega, by simp [maxLen], fun _ => ⟨hz, rfl⟩, fun k hk => by omega⟩
  · simp only [Value.slice.injEq] at e
    obtain ⟨rfl, e1, rfl⟩ := e
    have hb := blk hh
    have gt : ∀ i, i < cs.length * 3 → w.cell? ⟨g, i, none⟩ = (flat cs)[i]? := by
      intro i hi
      rw [hb.1 i, ← hx, List.getElem?_take, if_pos hi, Array.getElem?_toList]
    refine ⟨hc, hm, by simp, fun k hk => ⟨g, rfl, hg, hb.2.2, ⟨?_, ?_⟩, ?_, cur, hh⟩⟩
    · rw [gt _ (by omega)]; exact (flat_get cs k hk 0 (by omega)).trans rfl
    · rw [gt _ (by omega)]; exact (flat_get cs k hk 1 (by omega)).trans rfl
    · rw [gt _ (by omega)]; exact (flat_get cs k hk 2 (by omega)).trans rfl
theorem LogAt.below {w w' : World} {base b : Nat} {f m : Int} {cs : List (El × Bool)} (h : LogAt w base b f m cs) (hb : Below w.heap.size w w') : LogAt w' base b f m cs := by
  obtain ⟨h0, a, c, h1, h2⟩ := h
  exact ⟨h0, a, c, hp_step h1 hb, own_below h2 hb⟩
theorem LogAt.lt {w : World} {base b : Nat} {f m : Int} {cs : List (El × Bool)} (h : LogAt w base b f m cs) : base ≤ b ∧ b < w.heap.size := by
  obtain ⟨h0, a, c, h1, h2⟩ := h
  exact ⟨h0, (blk3 h1).2.2.2.2.2.2⟩

theorem new_ok (w : World) (f m : Int) : Calls Tryz.prog 50 #[.int .i64 f, .int .i64 m] w fun e w' => e = .returned (.pointer (some ⟨w.heap.size, 0, none⟩)) ∧ LogAt w' w.heap.size w.heap.size (min (max f 1) 1099511627776) (min (max m 1) 1024) [] ∧ Below w.heap.size w w' := by
  go_enter Tryz.func50, Tryz.ntmps50
  go_wp2_with fail
  all_goals go_ret
  all_goals refine ⟨rfl, ⟨Nat.le_refl _, none, 0, (hp_alloc_new w _).trans ?_, World.ownsRow_nil _ _ _ _⟩, below_new1 _ _⟩
  all_goals simp only [List.length_nil, Option.some.injEq, Obj.cells.injEq, and_true, Array.mk.injEq, List.cons.injEq, Value.int.injEq, true_and]
  all_goals omega

theorem top_raw (w : World) (b : Nat) (f : Int) (a : Option Addr) (n c : Nat) (h0 : w.cell? ⟨b, 0, none⟩ = some (.int .i64 f)) (h2 : w.cell? ⟨b, 2, none⟩ = some (.slice a n c)) (hf : 0 ≤ f) (hf2 : f ≤ 1099511627776) (hn : n ≤ 1024) :
    Calls Tryz.prog 53 #[.pointer (some ⟨b, 0, none⟩)] w fun e w' => e = .returned (.int .i64 (f + n)) ∧ Below w.heap.size w w' := by
  have hw : IntKind.i64.wrap (f + n) = f + n := IntWalk.i64_in _ (by omega)
  have hbz : b < w.heap.size := cell_lt h0
  go_enter Tryz.func53, Tryz.ntmps53
  go_wp2_with fail
  go_quiet (fail)
  go_wp2_with fail
  go_ret
  exact ⟨rfl, below_drewN (Below.refl _ _) _⟩
theorem top_ok (w : World) (base b : Nat) (f m : Int) (cs : List (El × Bool)) (h : LogAt w base b f m cs) (hF : Fit f m cs) : Calls Tryz.prog 53 #[.pointer (some ⟨b, 0, none⟩)] w fun e w' => e = .returned (.int .i64 (f + cs.length)) ∧ Below w.heap.size w w' := by
  obtain ⟨h0, a, c, h1, h2⟩ := h
  obtain ⟨c0, c1, c2, _, _, _, hz⟩ := blk3 h1
  have hl := hF.len; have hf1 := hF.f1; have hf2 := hF.f2; have hm := hF.m2
  exact top_raw w b f a cs.length c c0 c2 (by omega) hf2 (by omega)

/-- What a place holds. -/
def look (f : Int) (cs : List (El × Bool)) (i : Int) : El × Bool := if i < f then ((((none, 0, 0), (none, 0, 0)) : (Option Addr × Nat × Nat) × (Option Addr × Nat × Nat)), false) else cs[(i - f).toNat]?.getD ((((none, 0, 0), (none, 0, 0)) : (Option Addr × Nat × Nat) × (Option Addr × Nat × Nat)), false)

def lenOf : Option Value → Nat
  | some (.slice _ n _) => n
  | _ => 0
def padL (cs : List (El × Bool)) (n : Nat) : List (El × Bool) := cs ++ List.replicate (n - cs.length) ((((none, 0, 0), (none, 0, 0)) : (Option Addr × Nat × Nat) × (Option Addr × Nat × Nat)), false)
def putE (f m i : Int) : Int := if i < f then 80 else if m ≤ i - f then 81 else 0
def putC (f m : Int) (cs : List (El × Bool)) (i : Int) (v : El) : List (El × Bool) := if i < f ∨ m ≤ i - f then cs else (padL cs ((i - f).toNat + 1)).set (i - f).toNat (v, true)
theorem padL_len (cs : List (El × Bool)) (n : Nat) : (padL cs n).length = max cs.length n := by simp only [padL, List.length_append, List.length_replicate]; omega
theorem put_fit {f m : Int} {cs : List (El × Bool)} (h : Fit f m cs) (i : Int) (v : El) : Fit f m (putC f m cs i v) := by
  refine ⟨h.f1, h.f2, h.m1, h.m2, ?_⟩
  have hl := h.len
  unfold putC
  split
  · exact hl
  · rw [List.length_set, padL_len]; omega

theorem infoCell : (Tryz.prog.info? 125).map (fun i => (i.zero, i.size, i.bytes)) = some (some (.agg #[.slice none 0 0, .slice none 0 0, .bool false]), 3, 56) := by kernel_rfl

theorem own_shape {w : World} {base : Nat} {e : TypeId} {size : Nat} {v : Value} {n : Nat} {xs : List Value} (h : w.ownsRow base e size v n xs) : ∃ a c, v = .slice a n c := by
  rcases h.2 with ⟨rfl, rfl⟩ | ⟨g, cap, cur, rfl, hg, hh, hc, hm, hsz, hx⟩
  · exact ⟨none, 0, rfl⟩
  · exact ⟨_, cap, rfl⟩
theorem own_apart {w : World} {base b : Nat} {a : Option Addr} {n c : Nat} {xs : List Value} {cs : Array Value} (h : w.ownsRow base 125 3 (.slice a n c) n xs) (hb : w.heap[b]? = some (.cells cs 123 (0, 0))) : ∀ g, a = some ⟨g, 0, none⟩ → g ≠ b := by
  rintro g rfl rfl
  rcases h.2 with ⟨e, hz⟩ | ⟨g', cap, cur, e, hg, hh, _⟩
  · simp at e
  · simp only [Value.slice.injEq, Option.some.injEq, Addr.mk.injEq, and_true] at e
    obtain ⟨rfl, _⟩ := e
    rw [hb] at hh
    simp only [Option.some.injEq, Obj.cells.injEq] at hh
    exact absurd hh.2.1 (by decide)
theorem log_append {w w5 : World} {base b : Nat} {f m : Int} {a : Option Addr} {n c : Nat} {xs ys : List Value} {v5 : Value}
    (hrow : w.heap[b]? = some (.cells #[.int .i64 f, .int .i64 m, .slice a n c] 123 (0, 0))) (hown : w.ownsRow base 125 3 (.slice a n c) n xs)
    (hgr : w.grownBy w5 (Value.slice a n c).ownBlock) (hown5 : w5.ownsRow base 125 3 v5 (n + 1) ys) :
    ∃ a' c', v5 = .slice a' (n + 1) c' ∧ w5.heap[b]? = some (.cells #[.int .i64 f, .int .i64 m, .slice a n c] 123 (0, 0)) ∧
      (w5.setCell ⟨b, 2, none⟩ v5).heap[b]? = some (.cells #[.int .i64 f, .int .i64 m, v5] 123 (0, 0)) ∧ (w5.setCell ⟨b, 2, none⟩ v5).ownsRow base 125 3 v5 (n + 1) ys := by
  obtain ⟨a', c', rfl⟩ := own_shape hown5
  have hne : (Value.slice a n c).ownBlock ≠ some b := by
    intro e
    rcases hown.2 with ⟨e', _⟩ | ⟨g', cap, cur, e', hg, hh, _⟩
    · rw [e'] at e; simp [Value.ownBlock] at e
    · rw [e'] at e
      simp only [Value.ownBlock, Option.some.injEq] at e
      have e2 : a = some ⟨g', 0, none⟩ := by simp only [Value.slice.injEq] at e'; exact e'.1
      exact own_apart hown hrow g' e2 e
  have h5 : w5.heap[b]? = some (.cells #[.int .i64 f, .int .i64 m, .slice a n c] 123 (0, 0)) := (hgr.block b (blk3 hrow).2.2.2.2.2.2 (fun e => hne e.symm)).trans hrow
  exact ⟨a', c', rfl, h5, hp_set h5 2 _, own_kept hown5 (fun g hg => hp_set_ne (own_apart hown5 h5 g hg))⟩

theorem own_set {w : World} {base g : Nat} {n c k : Nat} {cs : List (El × Bool)} (h : w.ownsRow base 125 3 (.slice (some ⟨g, 0, none⟩) n c) n (flat cs)) (x : El) (y : Bool) :
    (((w.setCell ⟨g, k * 3, none⟩ (.slice x.1.1 x.1.2.1 x.1.2.2)).setCell ⟨g, k * 3 + 1, none⟩ (.slice x.2.1 x.2.2.1 x.2.2.2)).setCell ⟨g, k * 3 + 2, none⟩ (.bool y)).ownsRow base 125 3 (.slice (some ⟨g, 0, none⟩) n c) n (flat (cs.set k (x, y))) := by
  obtain ⟨h1, h2⟩ := h
  refine ⟨by rw [flat_len, List.length_set, ← flat_len]; exact h1, ?_⟩
  rcases h2 with ⟨e, hz⟩ | ⟨g', cap, cur, e, hg, hh, hc, hm, hsz, hx⟩
  · simp at e
  · simp only [Value.slice.injEq, Option.some.injEq, Addr.mk.injEq, and_true, true_and] at e
    obtain ⟨rfl, rfl⟩ := e
    refine .inr ⟨g, c, _, rfl, hg, hp_set (hp_set (hp_set hh _ _) _ _) _ _, hc, hm, by simp [hsz], ?_⟩
    rw [flat_set, ← hx]
    simp only [Array.toList_setIfInBounds, List.take_set]

/-- Blocks but b and those of Q are as they were. -/
def KeepQ (b : Nat) (Q : Nat → Prop) (w w' : World) : Prop := w.heap.size ≤ w'.heap.size ∧ ∀ k, k < w.heap.size → k ≠ b → ¬ Q k → w'.heap[k]? = w.heap[k]?
/-- The log's cells lie in a block of Q. -/
def RowQ (w : World) (b : Nat) (Q : Nat → Prop) : Prop := ∀ g o n c, w.cell? ⟨b, 2, none⟩ = some (.slice (some ⟨g, o, none⟩) n c) → Q g
theorem KeepQ.refl (b : Nat) (Q : Nat → Prop) (w : World) : KeepQ b Q w w := ⟨Nat.le_refl _, fun _ _ _ _ => rfl⟩
theorem KeepQ.trans {b : Nat} {Q : Nat → Prop} {x y z : World} (h : KeepQ b Q x y) (k : KeepQ b Q y z) : KeepQ b Q x z := ⟨Nat.le_trans h.1 k.1, fun j hj h1 h2 => (k.2 j (Nat.lt_of_lt_of_le hj h.1) h1 h2).trans (h.2 j hj h1 h2)⟩
theorem KeepQ.of_below {b : Nat} {Q : Nat → Prop} {x y : World} (h : Below x.heap.size x y) : KeepQ b Q x y := ⟨h.size, fun k hk _ _ => h.block k hk⟩
theorem KeepQ.set {b : Nat} {Q : Nat → Prop} {x y : World} (h : KeepQ b Q x y) {p : Addr} (hp : p.block = b ∨ Q p.block) (v : Value) : KeepQ b Q x (y.setCell p v) :=
  ⟨by rw [size_set]; exact h.1, fun k hk h1 h2 => by rw [hp_set_ne (by rintro rfl; rcases hp with e | e <;> first | exact h1 e | exact h2 e)]; exact h.2 k hk h1 h2⟩
theorem KeepQ.app {b : Nat} {Q : Nat → Prop} {T2 : TypeId} {x y z : World} {base size n cap : Nat} {ad : Option Addr} {xs : List Value} {o : Obj} (h : KeepQ b Q x y) (ho : y.ownsRow base T2 size (.slice ad n cap) n xs) (hq : ∀ g, ad = some ⟨g, 0, none⟩ → Q g) (hg : (y.alloc o).grownBy z (Value.slice ad n cap).ownBlock) : KeepQ b Q x z := by
  refine ⟨Nat.le_trans h.1 (Nat.le_trans (by rw [size_new]; omega) hg.size), fun j hj h1 h2 => ?_⟩
  refine (hg.block j (by rw [size_new]; have := h.1; omega) (fun e => ?_)).trans ((hp_alloc_old (Nat.lt_of_lt_of_le hj h.1)).trans (h.2 j hj h1 h2))
  rcases ho.2 with ⟨e', _⟩ | ⟨g', cap', cur, e', hg', hh, _⟩
  · rw [e'] at e; simp [Value.ownBlock] at e
  · rw [e'] at e
    simp only [Value.ownBlock, Option.some.injEq] at e
    subst e
    simp only [Value.slice.injEq] at e'
    exact h2 (hq j e'.1)
theorem RowQ.below {w w' : World} {b : Nat} {Q : Nat → Prop} (h : RowQ w b Q) (hb : Below w.heap.size w w') (hz : b < w.heap.size) : RowQ w' b Q := fun g o n c hc => h g o n c (by rw [← hc]; exact (hb.cell (p := ⟨b, 2, none⟩) hz).symm)
theorem own_at {w : World} {base n c : Nat} {e : TypeId} {size : Nat} {a : Option Addr} {xs : List Value} (h : w.ownsRow base e size (.slice a n c) n xs) : ∀ g o, a = some ⟨g, o, none⟩ → o = 0 := by
  rintro g o rfl
  rcases h.2 with ⟨e', _⟩ | ⟨g', cap', cur, e', _⟩
  · simp at e'
  · simp only [Value.slice.injEq, Option.some.injEq, Addr.mk.injEq] at e'; exact e'.1.2.1

theorem put_ty (w : World) (base b : Nat) (f m : Int) (cs : List (El × Bool)) (i : Int) (v : El) (h : LogAt w base b f m cs) (hF : Fit f m cs) (hbw : base ≤ w.heap.size) (Q : Nat → Prop) (hQ : ∀ k, w.heap.size < k → Q k) (hQ0 : ¬ Q w.heap.size) (hR : RowQ w b Q) (hi1 : -9223372036854775808 ≤ i) (hi2 : i ≤ 9223372036854775807) :
    Calls Tryz.prog 33 #[.pointer (some ⟨b, 0, none⟩), .int .i64 i, (.agg #[.slice (v).1.1 (v).1.2.1 (v).1.2.2, .slice (v).2.1 (v).2.2.1 (v).2.2.2])] w fun e w' => e = .returned (.int .i64 (putE f m i)) ∧ LogAt w' base b f m (putC f m cs i v) ∧ Below base w w' ∧ KeepQ b Q w w' ∧ RowQ w' b Q := by
  have hL := h
  obtain ⟨h0, a, c, h1, h2⟩ := h
  obtain ⟨c0, c1, c2, f0, f1, f2, hz⟩ := blk3 h1
  have hlen := hF.len; have hf1 := hF.f1; have hf2 := hF.f2; have hm2 := hF.m2
  by_cases hlt : i < f
  · have e1 : putE f m i = 80 := by rw [putE, if_pos hlt]
    have e2 : putC f m cs i v = cs := by rw [putC, if_pos (.inl hlt)]
    rw [e1, e2]
    clear e1 e2
    go_enter Tryz.func33, Tryz.ntmps33
    go_wp2_with fail
    go_ret
    exact ⟨rfl, hL.below (below_new1 _ _), Below.mono (below_new1 _ _) hbw, KeepQ.of_below (below_new1 _ _), hR.below (below_new1 _ _) hz⟩
  · have hw0 : IntKind.i64.wrap (i - f) = i - f := IntWalk.i64_in _ (by omega)
    by_cases hge : m ≤ i - f
    · have e1 : putE f m i = 81 := by rw [putE, if_neg hlt, if_pos hge]
      have e2 : putC f m cs i v = cs := by rw [putC, if_pos (.inr hge)]
      rw [e1, e2]
      clear e1 e2
      go_enter Tryz.func33, Tryz.ntmps33
      go_wp2_with fail
      go_quiet (fail)
      go_wp2_with fail
      go_ret
      exact ⟨rfl, hL.below (below_drewN (below_new1 _ _) _), Below.mono (below_drewN (below_new1 _ _) _) hbw, KeepQ.of_below (below_drewN (below_new1 _ _) _), hR.below (below_drewN (below_new1 _ _) _) hz⟩
    · obtain ⟨k, hk⟩ : ∃ k : Nat, i = f + k := ⟨(i - f).toNat, by omega⟩
      have hk0 : (i - f).toNat = k := by omega
      have e1 : putE f m i = 0 := by rw [putE, if_neg hlt, if_neg hge]
      have e2 : putC f m cs i v = (padL cs (k + 1)).set k (v, true) := by rw [putC, if_neg (by omega), hk0]
      have hw : IntKind.i64.wrap (i - f) = (k : Int) := by rw [hw0]; omega
      rw [e1, e2]
      have hkm : k < 1024 := by omega
      have hKK := Lib.hid hk
      obtain ⟨j0, hj, hy0, hy1, hy2⟩ := info_parts infoCell
      have hge' : (i - f) < m := by omega
      have hlt' : f ≤ i := by omega
      have hg2 : ¬ m ≤ (k : Int) := by omega
      have H2 := Lib.hid h2
      have H1 := Lib.hid h1
      have HL := Lib.hid hL
      have HR := Lib.hid hR
      have HQ := Lib.hid hQ
      have HQ0 := Lib.hid hQ0
      clear e1 e2 hk hge hk0 h1 h2 hL hw0 hR hQ hQ0
      go_enter Tryz.func33, Tryz.ntmps33
      go_wp2_with fail
      go_quiet (fail)
      go_wp2_with fail
      go_loopw [30] (fun _ wr => ∃ j : Nat, j ≤ k + 1 - cs.length ∧ Hid (LogAt wr base b f m (cs ++ List.replicate j ((((none, 0, 0), (none, 0, 0)) : (Option Addr × Nat × Nat) × (Option Addr × Nat × Nat)), false))) ∧ Hid (Below base w wr) ∧ Hid (KeepQ b Q (w.alloc (.cells #[.slice v.1.1 v.1.2.1 v.1.2.2, .slice v.2.1 v.2.2.1 v.2.2.2] 96)) wr) ∧ Hid (RowQ wr b Q)) (fun _ wr => k + 1 - lenOf (wr.cell? ⟨b, 2, none⟩))
      case atStart => exact ⟨0, Nat.zero_le _, by simpa [Hid] using HL.out.below (below_drewN (below_new1 _ _) _), Below.mono (below_drewN (below_new1 _ _) _) hbw, KeepQ.of_below (below_drewN (Below.refl _ _) _), HR.out.below (below_drewN (below_new1 _ _) _) hz⟩
      case round =>
        obtain ⟨j, hj1, hLr, hBr, hTr, hRr⟩ := hrel
        obtain ⟨ds, hds⟩ : ∃ ds, ds = cs ++ List.replicate j ((((none, 0, 0), (none, 0, 0)) : (Option Addr × Nat × Nat) × (Option Addr × Nat × Nat)), false) := ⟨_, rfl⟩
        rw [← hds] at hLr
        have hdl : ds.length = cs.length + j := by rw [hds]; simp
        have HDS := Lib.hid hds
        clear hds
        have HLR := Lib.hid hLr.out
        obtain ⟨_, a1, n1, q1, q2⟩ := hLr.out
        have Q1 := Lib.hid q1
        have Q2 := Lib.hid q2
        obtain ⟨d0, d1, d2, g0, g1, g2, z1⟩ := blk3 q1
        have hdm : ds.length ≤ 1024 := by omega
        have hDL := Lib.hid hdl
        clear hdl
        have hT := top_raw wr b f a1 ds.length n1 d0 d2 (by omega) hf2 hdm
        have HT := Lib.hid hT
        have HQG : Hid (∀ g, a1 = some ⟨g, 0, none⟩ → Q g) := fun g hg => hRr.out g 0 _ _ (by rw [d2, hg])
        clear hT q1 q2 hLr
        by_cases hle : ds.length ≤ k
        · have hle' : f + (ds.length : Int) ≤ i := by have := hKK.out; omega
          go_wp2_with fail
          refine HT.out.mono ?_; rintro e w4 ⟨rfl, hb4⟩
          have hn4 := hp_step Q1.out hb4
          have ho4 := own_below Q2.out hb4
          have hs4 := hb4.size
          have hB4 : Below base w w4 := hBr.out.trans (Below.mono hb4 (Nat.le_trans hbw hBr.out.size))
          obtain ⟨e0, e1, e2, x0, x1, x2, z4⟩ := blk3 hn4
          have HN4 := Lib.hid hn4
          have HO4 := Lib.hid ho4
          have HB4 := Lib.hid hB4
          have HT4 := Lib.hid (hTr.out.trans (KeepQ.of_below hb4))
          have hs5 := hB4.size
          clear d0 d1 d2 g0 g1 g2 hn4 ho4 hb4 hB4
          go_wp2_with (at_builtin; refine wpl_append_at rfl (.tmp 37) (.tmp 39) 121 rfl base 125 j0 _ 3 56 Tryz.underlying121 hj hy0 hy1 hy2 rfl (by decide) (.slice a1 ds.length n1) ds.length (flat ds) rfl (HO4.out.alloc _) ⟨w4.heap.size, 0, none⟩ 1 1 [.slice none 0 0, .slice none 0 0, .bool false] rfl rfl ?hL (by simp [Value.oneCell']) (by unfold maxLen; omega) (by omega) ?hB ?_)
          case hL => exact .inr ⟨_, 0, rfl, by rw [size_new]; omega, fun i hi => by rw [Nat.zero_add, (blk (hp_alloc_new _ _)).1]; match i, hi with | 0, _ => rfl | 1, _ => rfl | 2, _ => rfl⟩
          case hB => rw [size_new]; omega
          intro v5 w5 hown hgr hat5
          obtain ⟨a5, n5, rfl, hn5, hn6, ho6⟩ := log_append (hp_new HN4.out) (HO4.out.alloc _) hgr hown
          have hB5 : Below base w w5 := (HB4.out.alloc (by omega) _).grown hgr (by rw [size_new]; omega) (fun j hj => (HO4.out.lt j hj).1)
          have hfl : flat ds ++ [.slice none 0 0, .slice none 0 0, .bool false] = flat (ds ++ [((((none, 0, 0), (none, 0, 0)) : (Option Addr × Nat × Nat) × (Option Addr × Nat × Nat)), false)]) := by rw [flat_append]; rfl
          rw [hfl] at ho6
          obtain ⟨w6, hw6⟩ : ∃ w6 : World, w6 = w5.setCell ⟨b, 2, none⟩ (.slice a5 (ds.length + 1) n5) := ⟨_, rfl⟩
          have hB6 : Below base w w6 := by rw [hw6]; exact hB5.setCell (p := ⟨b, 2, none⟩) h0 _
          rw [← hw6] at hn6 ho6
          have hds6 : ds ++ [((((none, 0, 0), (none, 0, 0)) : (Option Addr × Nat × Nat) × (Option Addr × Nat × Nat)), false)] = cs ++ List.replicate (j + 1) ((((none, 0, 0), (none, 0, 0)) : (Option Addr × Nat × Nat) × (Option Addr × Nat × Nat)), false) := by rw [HDS.out, List.append_assoc, List.replicate_succ']
          have hL6 : LogAt w6 base b f m (cs ++ List.replicate (j + 1) ((((none, 0, 0), (none, 0, 0)) : (Option Addr × Nat × Nat) × (Option Addr × Nat × Nat)), false)) := by
            refine ⟨h0, a5, n5, ?_, ?_⟩
            · rw [← hds6, List.length_append]; exact hn6
            · rw [← hds6, List.length_append]; exact ho6
          have hm6 : k + 1 - lenOf (w6.cell? ⟨b, 2, none⟩) < k + 1 - lenOf (wr.cell? ⟨b, 2, none⟩) := by
            rw [(blk3 hn6).2.2.1, (blk3 Q1.out).2.2.1]; simp only [lenOf]; omega
          obtain ⟨e0, e1, e2, x0, x1, x2, z5⟩ := blk3 hn5
          have hT6 : KeepQ b Q (w.alloc (.cells #[.slice v.1.1 v.1.2.1 v.1.2.2, .slice v.2.1 v.2.2.1 v.2.2.2] 96)) w6 := by rw [hw6]; exact (HT4.out.app HO4.out HQG.out hgr).set (p := ⟨b, 2, none⟩) (.inl rfl) _
          have HT6 := Lib.hid hT6
          have hwz : w.heap.size < w4.heap.size := by have := HT4.out.1; rw [size_new] at this; omega
          have HR6 : Hid (RowQ w6 b Q) := fun g o n c hc => by
            rw [(blk3 hn6).2.2.1] at hc
            simp only [Option.some.injEq, Value.slice.injEq] at hc
            obtain ⟨rfl, _⟩ := hc
            obtain rfl := own_at ho6 g o rfl
            rcases hat5 g rfl with e | e
            · exact HQG.out g (own.own_block HO4.out g e)
            · exact HQ.out g (by omega)
          clear hT6 hat5
          have HW6 := Lib.hid hw6
          have HL6 := Lib.hid hL6
          have HB6 := Lib.hid hB6
          have HM6 := Lib.hid hm6
          clear hw6 hL6 hB6 hm6 hn6 ho6 hn5 hown hgr hB5 hfl
          go_wp2_with fail
          rw [← HW6.out]
          go_roundw
          case rel => exact ⟨j + 1, by have := hDL.out; omega, HL6, HB6, HT6, HR6⟩
          case measure => exact HM6.out
        · have hle' : ¬ f + (ds.length : Int) ≤ i := by have := hKK.out; omega
          have hnk : k < ds.length := by omega
          obtain ⟨o1, o2, o3, o4⟩ := own_open Q2.out rfl
          obtain ⟨g, rfl, hg, hgz, r0, r1, cur, hcur⟩ := o4 k hnk
          have hb0 := hBr.out.size
          have hdsp : ds = padL cs (k + 1) := by
            have e := HDS.out
            have e2 := hDL.out
            rw [e, padL, show j = k + 1 - cs.length by omega]
          have HDP := Lib.hid hdsp
          have N0 : (0 : Int) ≤ (k : Int) := by omega
          have N1 : (k : Int) < (ds.length : Int) := by omega
          clear hdsp o4 o3
          go_wp2_with fail
          refine HT.out.mono ?_; rintro e w4 ⟨rfl, hb4⟩
          have k0 := cell_step d0 hb4
          have k2 := cell_step d2 hb4
          have j0 := cell_step r0.1 hb4
          have j0b := cell_step r0.2 hb4
          have hbx := hp_step ((hTr.out.2 w.heap.size (by rw [size_new]; omega) (by omega) HQ0.out).trans (hp_alloc_new w _)) hb4
          have bx0 := (blk2 hbx).1
          have bx1 := (blk2 hbx).2.1
          have bxz := cell_lt bx0
          clear hbx
          have j1 := cell_step r1 hb4
          have z1 := cell_lt k0
          have z2 := cell_lt j0
          have HCU := Lib.hid (hp_step hcur hb4)
          have HT4 := Lib.hid (hTr.out.trans (KeepQ.of_below hb4))
          have y0 := (blk (hp_step hcur hb4)).2.1 (k * 3)
          have y1 := (blk (hp_step hcur hb4)).2.1 (k * 3 + 1)
          have y2 := (blk (hp_step hcur hb4)).2.1 (k * 3 + 2)
          have HB := Lib.hid hb4
          have hn4 := hp_step Q1.out hb4
          have ho4 := own_below Q2.out hb4
          have hB4 : Below base w w4 := hBr.out.trans (Below.mono hb4 (Nat.le_trans hbw hBr.out.size))
          have HN4 := Lib.hid hn4
          have HO4 := Lib.hid ho4
          have HB4 := Lib.hid hB4
          clear hb4 d0 d1 d2 g0 g1 g2 r0 r1 hn4 ho4 hB4 hcur
          go_wp2_with fail
          go_region
          go_wp2_with fail
          go_ret
          refine ⟨rfl, LogAt.below ?_ (below_drewN (Below.refl _ _) 1), below_drewN ?_ 1, ?_⟩
          · rw [← HDP.out]
            refine ⟨h0, some ⟨g, 0, none⟩, n1, ?_, ?_⟩
            · rw [List.length_set]
              exact (hp_set_ne (a := ⟨g, k * 3 + 2, none⟩) (own_apart HO4.out HN4.out g rfl).symm).trans ((hp_set_ne (a := ⟨g, k * 3 + 1, none⟩) (own_apart HO4.out HN4.out g rfl).symm).trans ((hp_set_ne (a := ⟨g, k * 3, none⟩) (own_apart HO4.out HN4.out g rfl).symm).trans HN4.out))
            · rw [List.length_set]
              exact own_set HO4.out v true
          · exact ((HB4.out.setCell (p := ⟨g, k * 3, none⟩) hg _).setCell (p := ⟨g, k * 3 + 1, none⟩) hg _).setCell (p := ⟨g, k * 3 + 2, none⟩) hg _
          · refine ⟨((KeepQ.of_below (below_new1 _ _)).trans (((HT4.out.set (p := ⟨g, k * 3, none⟩) (.inr (HQG.out g rfl)) _).set (p := ⟨g, k * 3 + 1, none⟩) (.inr (HQG.out g rfl)) _).set (p := ⟨g, k * 3 + 2, none⟩) (.inr (HQG.out g rfl)) _)).trans (KeepQ.of_below (below_drewN (Below.refl _ _) 1)), fun g2 o2 n2 c2 hc => ?_⟩
            have hgb := own_apart HO4.out HN4.out g rfl
            have h5 := (hp_set_ne (v := .bool true) (a := ⟨g, k * 3 + 2, none⟩) hgb.symm).trans ((hp_set_ne (v := .slice v.2.1 v.2.2.1 v.2.2.2) (a := ⟨g, k * 3 + 1, none⟩) hgb.symm).trans ((hp_set_ne (v := .slice v.1.1 v.1.2.1 v.1.2.2) (a := ⟨g, k * 3, none⟩) hgb.symm).trans HN4.out))
            have h6 := (blk3 h5).2.2.1
            have h7 : some (Value.slice (some ⟨g, 0, none⟩) ds.length n1) = some (.slice (some ⟨g2, o2, none⟩) n2 c2) := h6.symm.trans hc
            simp only [Option.some.injEq, Value.slice.injEq, Addr.mk.injEq] at h7
            rw [← h7.1.1]
            exact HQG.out g rfl
end Go.Proofs.YtcaakiaenfkeaaaGreat.logq
/-
  A log of purse/peer.proposal: cells copied; the next place; Cut; what is handed to the iterators (printed by wip/mklog.py).
-/
namespace Go.Proofs.YtcaakiaenfkeaaaGreat.logq
open Go.ChangeShapes Go.WideShapes Go.ChangeAt Go.RowKit
open Go.Proofs.YtcaakiaenfkeaaaGreat.kit
set_option linter.unusedVariables false
set_option linter.unusedSimpArgs false
set_option maxHeartbeats 1000000
set_option maxRecDepth 100000

def Gives (w : World) (l : List (El × Bool)) (e : Ending) (w' : World) : Prop :=
  ∃ v, e = .returned v ∧ w'.ownsRow w.heap.size 125 3 v l.length (flat l) ∧ Below w.heap.size w w'
theorem clone_nil (w : World) : Calls Tryz.prog 74 #[.slice none 0 0] w fun e w' => e = .returned (.slice none 0 0) ∧ w = w' := by
  have hn := fun w => Lib.run_eql_slice_nil (P := Tryz.prog) w 121 125 none 0 0 0 0 Tryz.underlying121
  go_enter Tryz.func74, Tryz.ntmps74
  go_wp2_with fail
  go_ret
  exact ⟨rfl, rfl⟩
theorem clone_some (l : List (El × Bool)) (ad : Addr) (cap : Nat) (w : World) (hl : l.length ≤ 1024) (hat : Lie w (some ad) (flat l)) :
    Calls Tryz.prog 74 #[.slice (some ad) l.length cap] w (Gives w l) := by
  obtain ⟨i0, hi, hz0, hz1, hz2⟩ := info_parts infoCell
  have hn := fun w => Lib.run_eql_slice_nil (P := Tryz.prog) w 121 125 (some ad) l.length cap 0 0 Tryz.underlying121
  have hown : (w.alloc (.cells #[] 125)).ownsRow w.heap.size 125 3 (.slice (some ⟨w.heap.size, 0, none⟩) 0 0) 0 [] :=
    ⟨rfl, .inr ⟨w.heap.size, 0, #[], rfl, Nat.le_refl _, hp_alloc_new _ _, Nat.le_refl _, by simp [maxLen], rfl, rfl⟩⟩
  have hat' : Lie (w.alloc (.cells #[] 125)) (some ad) (flat l) := hat.below (below_new1 _ _)
  go_enter Tryz.func74, Tryz.ntmps74
  go_wp2_with (at_builtin; refine wpl_append rfl (.tmp 5) (.tmp 6) 121 rfl w.heap.size 125 i0 (.agg #[.slice none 0 0, .slice none 0 0, .bool false]) 3 56 Tryz.underlying121 hi hz0 hz1 hz2 rfl (by decide) _ 0 [] rfl hown (some ad) l.length cap (flat l) rfl (by simp) (flat_len l) hat' (flat_one _) (by unfold maxLen; omega) (by omega) (by rw [size_new]; omega) ?_)
  intro v' w' hown' hgr
  go_wp2_with fail
  go_ret
  refine ⟨v', rfl, ?_, (below_new1 _ _).grown hgr (by rw [size_new]; omega) (fun k hk => (hown.lt k hk).1)⟩
  simpa using hown'
theorem clone_any (l : List (El × Bool)) (ao : Option Addr) (cap : Nat) (w : World) (hl : l.length ≤ 1024) (hn : ao = none → l.length = 0 ∧ cap = 0) (hat : Lie w ao (flat l)) :
    Calls Tryz.prog 74 #[.slice ao l.length cap] w (Gives w l) := by
  cases ao with
  | none =>
    obtain ⟨h1, rfl⟩ := hn rfl
    obtain rfl : l = [] := List.length_eq_zero_iff.1 h1
    refine (clone_nil w).mono fun e w' ⟨he, hw⟩ => ?_
    subst hw
    exact ⟨_, he, World.ownsRow_nil _ _ _ _, Below.refl _ _⟩
  | some ad => exact clone_some l ad cap w hl hat

def nextN (cs : List (El × Bool)) : Nat := (cs.takeWhile (fun c => c.2)).length
theorem nextN_at : ∀ (cs : List (El × Bool)) (k : Nat) (hk : k < cs.length), (∀ j (hj : j < cs.length), j < k → (cs[j]).2 = true) → (cs[k]).2 = false → nextN cs = k := by
  intro cs
  induction cs with
  | nil => intro k hk; simp at hk
  | cons x l ih =>
    intro k hk ha hf
    cases k with
    | zero => simp only [List.getElem_cons_zero] at hf; simp [nextN, List.takeWhile, hf]
    | succ k =>
      have h0 : x.2 = true := ha 0 (by simp) (by omega)
      have := ih k (by simpa using hk) (fun j hj hjk => ha (j + 1) (by simpa using hj) (by omega)) hf
      simp only [nextN] at this ⊢
      simp [List.takeWhile, h0, this]
theorem nextN_all : ∀ (cs : List (El × Bool)), (∀ j (hj : j < cs.length), (cs[j]).2 = true) → nextN cs = cs.length := by
  intro cs
  induction cs with
  | nil => intro _; rfl
  | cons x l ih =>
    intro ha
    have h0 : x.2 = true := ha 0 (by simp)
    have := ih (fun j hj => ha (j + 1) (by simpa using hj))
    simp only [nextN] at this ⊢
    simp [List.takeWhile, h0, this]
theorem nextN_le (cs : List (El × Bool)) : nextN cs ≤ cs.length := (List.takeWhile_sublist _).length_le

def cutI (f i : Int) : Prop := i ≤ f ∨ 1099511627776 < i
instance (f i : Int) : Decidable (cutI f i) := by unfold cutI; infer_instance
def gone (cs : List (El × Bool)) : Nat := (cs.filter (fun c => c.2)).length
def cutE (f : Int) (cs : List (El × Bool)) (i : Int) : Int := if cutI f i then 0 else (gone (cs.take (i - f).toNat) : Nat)
def cutF (f i : Int) : Int := if cutI f i then f else i
def cutC (f : Int) (cs : List (El × Bool)) (i : Int) : List (El × Bool) := if cutI f i then cs else cs.drop (i - f).toNat
theorem cut_fit {f m : Int} {cs : List (El × Bool)} (h : Fit f m cs) (i : Int) : Fit (cutF f i) m (cutC f cs i) := by
  have h1 := h.f1; have h2 := h.f2; have hl := h.len
  unfold cutF cutC
  by_cases hc : cutI f i
  · rw [if_pos hc, if_pos hc]; exact h
  · rw [if_neg hc, if_neg hc]
    unfold cutI at hc
    refine ⟨by omega, by omega, h.m1, h.m2, ?_⟩
    rw [List.length_drop]; omega
theorem gone_snoc (cs : List (El × Bool)) (k : Nat) (hk : k < cs.length) : gone (cs.take (k + 1)) = gone (cs.take k) + (if (cs[k]).2 then 1 else 0) := by
  rw [List.take_succ_eq_append_getElem hk]
  simp only [gone, List.filter_append, List.length_append]
  cases hc : (cs[k]).2 <;> simp [List.filter, hc]

theorem cut_none (w : World) (base b : Nat) (f m : Int) (cs : List (El × Bool)) (i : Int) (h : LogAt w base b f m cs) (hc : cutI f i) :
    Calls Tryz.prog 76 #[.pointer (some ⟨b, 0, none⟩), .int .i64 i] w fun e w' => e = .returned (.int .i64 0) ∧ w = w' := by
  obtain ⟨h0, a, c, h1, h2⟩ := h
  obtain ⟨c0, c1, c2, f0, f1, f2, hz⟩ := blk3 h1
  by_cases h : i ≤ f
  · go_enter Tryz.func76, Tryz.ntmps76
    go_wp2_with fail
    go_ret
    exact ⟨rfl, rfl⟩
  · have h' : f < i := by omega
    have h2 : 1099511627776 < i := by rcases hc with h | h <;> omega
    go_enter Tryz.func76, Tryz.ntmps76
    go_wp2_with fail
    go_ret
    exact ⟨rfl, rfl⟩

theorem cut_some_ty (w : World) (base b : Nat) (f m : Int) (cs : List (El × Bool)) (i : Int) (h : LogAt w base b f m cs) (hF : Fit f m cs) (hbw : base ≤ w.heap.size) (Q : Nat → Prop) (hQ : ∀ k, w.heap.size ≤ k → Q k) (hR : RowQ w b Q) (hc : ¬ cutI f i) :
    Calls Tryz.prog 76 #[.pointer (some ⟨b, 0, none⟩), .int .i64 i] w fun e w' => e = .returned (.int .i64 (gone (cs.take (i - f).toNat) : Nat)) ∧ LogAt w' base b i m (cs.drop (i - f).toNat) ∧ Below base w w' ∧ KeepQ b Q w w' ∧ RowQ w' b Q := by
  have hL := h
  have HQ := Lib.hid hQ
  clear hQ hR
  obtain ⟨h0, a, c, h1, h2⟩ := h
  obtain ⟨c0, c1, c2, f0, f1, f2, hz⟩ := blk3 h1
  have hlen := hF.len; have hf1 := hF.f1; have hf2 := hF.f2; have hm2 := hF.m2
  have hi1 : f < i := by unfold cutI at hc; omega
  have hi2 : i ≤ 1099511627776 := by unfold cutI at hc; omega
  clear hc
  obtain ⟨o1, o2, o3, o4⟩ := own_open h2 rfl
  have hw : IntKind.i64.wrap (i - f) = i - f := IntWalk.i64_in _ (by omega)
  go_enter Tryz.func76, Tryz.ntmps76
  go_wp2_with fail
  go_region
  obtain ⟨n, hn, hnl, htk, hdr⟩ : ∃ n : Nat, (if (cs.length : Int) < i - f then (cs.length : Int) else i - f) = (n : Int) ∧ n ≤ cs.length ∧ cs.take (i - f).toNat = cs.take n ∧ cs.drop (i - f).toNat = cs.drop n := by
    split
    · exact ⟨cs.length, rfl, Nat.le_refl _, by rw [List.take_of_length_le (by omega), List.take_length], by rw [List.drop_eq_nil_of_le (by omega), List.drop_length]⟩
    · exact ⟨(i - f).toNat, by omega, by omega, rfl, rfl⟩
  rw [hn]
  have HTK := Lib.hid htk
  have HDR := Lib.hid hdr
  clear htk hdr hn
  have hLie : Lie w (if c = n then a else a.map (·.add (n * 3))) (flat (cs.drop n)) := by
    rw [flat_drop]
    rcases h2.2 with ⟨e, hz⟩ | ⟨g, cap, cur, e, hg, hh, hc, hm, hsz, hx⟩
    · left
      rw [List.drop_eq_nil_of_le]; rw [flat_len]; omega
    · simp only [Value.slice.injEq] at e
      obtain ⟨rfl, _, rfl⟩ := e
      by_cases hcn : c = n
      · left
        rw [List.drop_eq_nil_of_le]; rw [flat_len]; omega
      · right
        rw [if_neg hcn]
        refine ⟨g, n * 3, by simp [Addr.add]; omega, (blk hh).2.2, fun q hq => ?_⟩
        rw [(blk hh).1, List.getElem?_drop, ← hx, List.getElem?_take, ← Array.getElem?_toList]
        rw [List.length_drop, flat_len] at hq
        rw [if_pos (by omega)]
  have hCl : ∀ W, Below w.heap.size w W → Calls Tryz.prog 74 #[.slice (if c = n then a else a.map (·.add (n * 3))) (cs.length - n) (c - n)] W (Gives W (cs.drop n)) := by
    intro W hW
    have e : cs.length - n = (cs.drop n).length := by rw [List.length_drop]
    rw [e]
    refine clone_any (cs.drop n) _ _ W (by rw [List.length_drop]; omega) ?_ (hLie.below hW)
    intro ha
    have hna : a = none := by
      split at ha
      · exact ha
      · cases a with
        | none => rfl
        | some x => simp at ha
    obtain ⟨q1, q2⟩ := o3 hna
    rw [List.length_drop]; omega
  have HCa : Hid (∀ W, Below w.heap.size w W → c = n → Calls Tryz.prog 74 #[.slice a (cs.length - n) 0] W (Gives W (cs.drop n))) := by
    intro W hW e
    have := hCl W hW
    rw [if_pos e, e, Nat.sub_self] at this
    exact this
  have HCb : Hid (∀ W, Below w.heap.size w W → ¬ c = n → Calls Tryz.prog 74 #[.slice (a.map (·.add (n * 3))) (cs.length - n) (c - n)] W (Gives W (cs.drop n))) := by
    intro W hW e
    have := hCl W hW
    rw [if_neg e] at this
    exact this
  have H4 := Lib.hid o4
  have H1 := Lib.hid h1
  have H2 := Lib.hid h2
  clear hLie hCl o4 h1 h2 hL
  go_wp2_with fail
  go_loopw [6, 42] (fun s i wr => ∃ k : Nat, k ≤ n ∧ i = .int .i64 k ∧ s = .int .i64 (gone (cs.take k) : Nat) ∧ Below w.heap.size w wr) (fun _ i _ => n - (intOf i).toNat)
  case atStart => exact ⟨0, Nat.zero_le _, rfl, rfl, below_drewN (Below.refl _ _) 1⟩
  case round =>
    obtain ⟨k, hk, rfl, rfl, hb⟩ := hrel
    have HB := Lib.hid hb
    have hgl : gone (cs.take k) ≤ k := Nat.le_trans (List.length_filter_le _ _) (List.length_take_le _ _)
    by_cases hlt : k < n
    · obtain ⟨g, rfl, hg, hgz, r0, r1, _⟩ := H4.out k (by omega)
      have q0 := cell_step r0.1 hb
      have q0b := cell_step r0.2 hb
      have q1 := cell_step r1 hb
      have z2 := cell_lt q0
      have HG := Lib.hid (gone_snoc cs k (by omega))
      clear hb r0 r1 c0 c1 c2 f0 f1 f2
      cases hc : (cs[k]).2 with
      | false =>
        rw [hc] at q1
        go_wp2_with fail
        go_roundw
        case rel => exact ⟨k + 1, by omega, by go_num, by rw [HG.out, hc]; simp, below_step HB.out (below_new1 _ _)⟩
        case measure => simp [intOf]; omega
      | true =>
        rw [hc] at q1
        go_wp2_with fail
        go_roundw
        case rel => exact ⟨k + 1, by omega, by go_num, by rw [HG.out, hc]; go_num, below_step HB.out (below_new1 _ _)⟩
        case measure => simp [intOf]; omega
    · obtain rfl : k = n := by omega
      have k0 := cell_step c0 hb
      have k2 := cell_step c2 hb
      have z1 := cell_lt k0
      clear hb
      go_wp2_with fail
      all_goals first | refine (HCa.out _ HB.out (by first | rfl | assumption)).mono ?_ | refine (HCb.out _ HB.out (by assumption)).mono ?_
      all_goals (
        rintro e w5 ⟨v, rfl, hown, hb5⟩
        obtain ⟨av, cv, rfl⟩ := own_shape hown
        have hn5 := hp_step (hp_step H1.out HB.out) hb5
        have hB5 : Below w.heap.size w w5 := below_step HB.out hb5
        obtain ⟨e0, e1, e2, x0, x1, x2, z5⟩ := blk3 hn5
        have HN5 := Lib.hid hn5
        have HO5 := Lib.hid hown
        have HB5 := Lib.hid hB5
        clear hb5 hn5 hown hB5 k0 k2 z1
        go_wp2_with fail
        go_ret
        refine ⟨by rw [HTK.out]; rfl, ?_, ?_, ?_⟩
        · rw [HDR.out]
          refine ⟨h0, av, cv, by rw [List.length_drop]; exact hp_set (hp_set HN5.out 2 _) 0 _, own_kept (own_mono HO5.out (Nat.le_trans hbw HB.out.size)) (fun g hg => ?_)⟩
          have hgb : g ≠ b := fun e => by
            rcases HO5.out.2 with ⟨e', hz'⟩ | ⟨g', cap, cur, e', hg', _⟩
            · rw [hg] at e'; simp at e'
            · rw [hg] at e'
              simp only [Value.slice.injEq, Option.some.injEq, Addr.mk.injEq, and_true] at e'
              have := HB.out.size
              omega
          exact (hp_set_ne (a := ⟨b, 0, none⟩) hgb).trans (hp_set_ne (a := ⟨b, 2, none⟩) hgb)
        · exact ((Below.mono HB5.out hbw).setCell (p := ⟨b, 2, none⟩) h0 _).setCell (p := ⟨b, 0, none⟩) h0 _
        · refine ⟨((KeepQ.of_below HB5.out).set (p := ⟨b, 2, none⟩) (.inl rfl) _).set (p := ⟨b, 0, none⟩) (.inl rfl) _, fun g o n c hc => ?_⟩
          have h6 := Eq.trans (Eq.symm (blk3 (hp_set (hp_set HN5.out 2 _) 0 _)).2.2.1) hc
          simp only [Option.some.injEq, Value.slice.injEq] at h6
          obtain ⟨rfl, _⟩ := h6
          obtain rfl := own_at HO5.out g o rfl
          exact HQ.out g (Nat.le_trans HB.out.size (own.own_from HO5.out g rfl).1))
theorem cut_ty (w : World) (base b : Nat) (f m : Int) (cs : List (El × Bool)) (i : Int) (h : LogAt w base b f m cs) (hF : Fit f m cs) (hbw : base ≤ w.heap.size) (Q : Nat → Prop) (hQ : ∀ k, w.heap.size ≤ k → Q k) (hR : RowQ w b Q) :
    Calls Tryz.prog 76 #[.pointer (some ⟨b, 0, none⟩), .int .i64 i] w fun e w' => e = .returned (.int .i64 (cutE f cs i)) ∧ LogAt w' base b (cutF f i) m (cutC f cs i) ∧ Below base w w' ∧ KeepQ b Q w w' ∧ RowQ w' b Q := by
  by_cases hc : cutI f i
  · rw [cutE, cutF, cutC, if_pos hc, if_pos hc, if_pos hc]
    refine (cut_none w base b f m cs i h hc).mono ?_
    rintro e w' ⟨rfl, rfl⟩
    exact ⟨rfl, h, Below.refl _ _, KeepQ.refl _ _ _, hR⟩
  · rw [cutE, cutF, cutC, if_neg hc, if_neg hc, if_neg hc]
    exact cut_some_ty w base b f m cs i h hF hbw Q hQ hR hc

theorem now_ok (w : World) (base b : Nat) (f m : Int) (cs : List (El × Bool)) (h : LogAt w base b f m cs) (hF : Fit f m cs) :
    Calls Tryz.prog 65 #[.pointer (some ⟨b, 0, none⟩)] w fun e w' => ∃ v, e = .returned (.tuple #[.int .i64 f, v]) ∧ w'.ownsRow w.heap.size 125 3 v cs.length (flat cs) ∧ Below w.heap.size w w' := by
  obtain ⟨h0, a, c, h1, h2⟩ := h
  obtain ⟨c0, c1, c2, f0, f1, f2, hz⟩ := blk3 h1
  have hlen := hF.len; have hf1 := hF.f1; have hf2 := hF.f2; have hm2 := hF.m2
  obtain ⟨ao, cap, ev, hnil, hlie, _⟩ := owned_lie h2
  simp only [Value.slice.injEq, true_and] at ev
  obtain ⟨rfl, rfl⟩ := ev
  have hCl : Hid (∀ W, Below w.heap.size w W → Calls Tryz.prog 74 #[.slice a cs.length c] W (Gives W cs)) := fun W hW => clone_any cs a c W (by omega) hnil (hlie.below hW)
  clear hnil hlie h1 h2 c1 f0 f1 f2
  go_enter Tryz.func65, Tryz.ntmps65
  go_wp2_with fail
  go_region_with (first | (go_at_call 74; refine (hCl.out _ (below_drewN (Below.refl _ _) 1)).mono ?_; rintro e wn ⟨v, rfl, hv, hbn⟩; have hbw : Below w.heap.size w wn := below_step (below_drewN (Below.refl _ _) 1) hbn; have d0 := cell_step c0 hbw))
  all_goals go_wp2_with fail
  all_goals exact bodyPost_ret (v := .tuple #[.int .i64 f, v]) (by simp [results, Tryz.results65, go_sem]) rfl ⟨v, rfl, own_mono hv (Nat.le_refl _), hbw⟩
end Go.Proofs.YtcaakiaenfkeaaaGreat.logq
/-
  A log of purse/peer.proposal: what All, Run and Holes hand out, and how these sequences go (printed by wip/mklog.py).
-/
namespace Go.Proofs.YtcaakiaenfkeaaaGreat.logq
open Go.ChangeShapes Go.WideShapes Go.ChangeAt Go.RowKit Go.Shelf
open Go.Proofs.YtcaakiaenfkeaaaGreat.kit
set_option linter.unusedVariables false
set_option linter.unusedSimpArgs false
set_option maxHeartbeats 1000000
set_option maxRecDepth 100000

/-- Some blocks are as they were. -/
def Between (lo hi : Nat) (W W' : World) : Prop := W.heap.size ≤ W'.heap.size ∧ ∀ j, lo ≤ j → j < hi → W'.heap[j]? = W.heap[j]?
theorem Between.refl (lo hi : Nat) (W : World) : Between lo hi W W := ⟨Nat.le_refl _, fun _ _ _ => rfl⟩
theorem Between.trans {lo hi : Nat} {A B C : World} (h : Between lo hi A B) (k : Between lo hi B C) : Between lo hi A C := ⟨Nat.le_trans h.1 k.1, fun j h1 h2 => (k.2 j h1 h2).trans (h.2 j h1 h2)⟩
theorem Between.of_below {lo hi n : Nat} {A B : World} (h : Below n A B) (hn : hi ≤ n) : Between lo hi A B := ⟨h.size, fun j _ h2 => h.block j (by omega)⟩
theorem Between.alloc {lo hi : Nat} {A B : World} (h : Between lo hi A B) (hi2 : hi ≤ A.heap.size) (o : Obj) : Between lo hi A (B.alloc o) := h.trans (Between.of_below (below_new1 B o) (Nat.le_trans hi2 h.1))
theorem Between.setCell {lo hi : Nat} {A B : World} (h : Between lo hi A B) (p : Addr) (hp : p.block < lo ∨ hi ≤ p.block) (v : Value) : Between lo hi A (B.setCell p v) :=
  h.trans ⟨by rw [size_set]; exact Nat.le_refl _, fun j h1 h2 => hp_set_ne (a := p) (by omega)⟩
theorem between_b {lo hi : Nat} {w : World} (h : hi ≤ w.heap.size) : ∀ (W : World) (l : Nat) (o o' : Obj), w.heap.size ≤ l → W.heap[l]? = some o → o.isCells = false → o.isWalk = false → Between lo hi W (W.putObj l o') := by
  intro W l o o' h1 _ _ _
  have hg := grownBy_putObj' W l o'
  refine ⟨hg.size, fun j _ h3 => ?_⟩
  by_cases hj : j < W.heap.size
  · exact hg.block j hj (by simp; omega)
  · have e : (W.putObj l o').heap.size = W.heap.size := by simp [World.putObj]
    rw [Array.getElem?_eq_none (by omega), Array.getElem?_eq_none (by omega)]
/-- What a sequence's closure has. -/
def ItAt (w : World) (lo hi B B' : Nat) (f : Int) (cs : List (El × Bool)) : Prop :=
  (lo ≤ B ∧ B < hi) ∧ (lo ≤ B' ∧ B' < hi) ∧ ∃ a c, w.cell? ⟨B, 0, none⟩ = some (.slice a cs.length c) ∧ w.cell? ⟨B', 0, none⟩ = some (.int .i64 f) ∧ w.ownsRow lo 125 3 (.slice a cs.length c) cs.length (flat cs) ∧ (∀ g, a = some ⟨g, 0, none⟩ → g < hi)
theorem cell_same {w w' : World} {b o : Nat} (h : w'.heap[b]? = w.heap[b]?) : w'.cell? ⟨b, o, none⟩ = w.cell? ⟨b, o, none⟩ := by simp [World.cell?, h]
theorem own_from {w : World} {base : Nat} {e : TypeId} {size n c : Nat} {a : Option Addr} {xs : List Value} (h : w.ownsRow base e size (.slice a n c) n xs) : ∀ g, a = some ⟨g, 0, none⟩ → base ≤ g ∧ g < w.heap.size := by
  rintro g rfl
  rcases h.2 with ⟨e', hz⟩ | ⟨g', cap, cur, e', hg, hh, _⟩
  · simp at e'
  · simp only [Value.slice.injEq, Option.some.injEq, Addr.mk.injEq, and_true] at e'
    obtain ⟨rfl, _⟩ := e'
    exact ⟨hg, (blk hh).2.2⟩
theorem ItAt.between {w w' : World} {lo hi B B' : Nat} {f : Int} {cs : List (El × Bool)} (h : ItAt w lo hi B B' f cs) (hb : Between lo hi w w') : ItAt w' lo hi B B' f cs := by
  obtain ⟨k1, k2, a, c, h1, h2, h3, h4⟩ := h
  exact ⟨k1, k2, a, c, (cell_same (hb.2 B k1.1 k1.2)).trans h1, (cell_same (hb.2 B' k2.1 k2.2)).trans h2, own_kept h3 (fun g hg => hb.2 g (own_from h3 g hg).1 (h4 g hg)), h4⟩
theorem ItAt.below {w w' : World} {lo hi B B' n : Nat} {f : Int} {cs : List (El × Bool)} (h : ItAt w lo hi B B' f cs) (hb : Below n w w') (hn : hi ≤ n) : ItAt w' lo hi B B' f cs := h.between (Between.of_below hb hn)

theorem seq_start {w w1 : World} {f : Int} {v : Value} {cs : List (El × Bool)} (hv : w1.ownsRow w.heap.size 125 3 v cs.length (flat cs)) (hb : Below w.heap.size w w1) (T1 T2 : TypeId) :
    ItAt ((w1.alloc (.cells #[.int .i64 f] T1)).alloc (.cells #[v] T2)) w.heap.size ((w1.alloc (.cells #[.int .i64 f] T1)).alloc (.cells #[v] T2)).heap.size (w1.heap.size + 1) w1.heap.size f cs ∧ Below w.heap.size w ((w1.alloc (.cells #[.int .i64 f] T1)).alloc (.cells #[v] T2)) := by
  obtain ⟨a, c, rfl⟩ := own_shape hv
  have hn := new2 w1 (.cells #[.int .i64 f] T1) (.cells #[.slice a cs.length c] T2)
  have hs := hb.size
  refine ⟨⟨⟨by omega, by simp only [size_new]; omega⟩, ⟨by omega, by simp only [size_new]; omega⟩, a, c, (blk1 hn.2.1).1, (blk1 hn.1).1, own_below hv (below_new2 _ _ _), fun g hg => ?_⟩, below_step hb (below_new2 _ _ _)⟩
  have := (own_from hv g hg).2
  simp only [size_new]
  omega

theorem run_ok (w : World) (base b : Nat) (f m : Int) (cs : List (El × Bool)) (h : LogAt w base b f m cs) (hF : Fit f m cs) :
    Calls Tryz.prog 54 #[.pointer (some ⟨b, 0, none⟩)] w fun e w' => ∃ B B', e = .returned (.func (.func 66) #[] #[.pointer (some ⟨B, 0, none⟩), .pointer (some ⟨B', 0, none⟩)]) ∧ ItAt w' w.heap.size w'.heap.size B B' f cs ∧ Below w.heap.size w w' := by
  have HN := Lib.hid (now_ok w base b f m cs h hF)
  go_enter Tryz.func54, Tryz.ntmps54
  go_wp2_with fail
  refine HN.out.mono ?_; rintro e w1 ⟨v, rfl, hv, hb1⟩
  obtain ⟨av, cv, rfl⟩ := own_shape hv
  go_wp2_with fail
  exact bodyPost_ret (v := .func (.func 66) #[] #[.pointer (some ⟨w1.heap.size + 1, 0, none⟩), .pointer (some ⟨w1.heap.size, 0, none⟩)]) (by simp [results, Tryz.results54, go_sem]) rfl ⟨_, _, rfl, (seq_start hv hb1 _ _).1, (seq_start (f := f) hv hb1 _ _).2⟩

/-- The filled places, from a number on. -/
def allF (i : Int) : List (El × Bool) → List (Int × El)
  | [] => []
  | c :: cs => if c.2 then (i, c.1) :: allF (i + 1) cs else allF (i + 1) cs
theorem allF_append (i : Int) (a b : List (El × Bool)) : allF i (a ++ b) = allF i a ++ allF (i + a.length) b := by
  induction a generalizing i with
  | nil => simp [allF]
  | cons c cs ih =>
    have e : i + 1 + (cs.length : Int) = i + ((c :: cs).length : Nat) := by simp only [List.length_cons]; omega
    simp only [List.cons_append, allF, ih, e]
    split <;> simp
theorem allF_snoc (i : Int) (cs : List (El × Bool)) (k : Nat) (hk : k < cs.length) : allF i (cs.take (k + 1)) = allF i (cs.take k) ++ (if (cs[k]).2 then [(i + k, (cs[k]).1)] else []) := by
  rw [List.take_succ_eq_append_getElem hk, allF_append, List.length_take, Nat.min_eq_left (by omega)]
  simp only [allF]
theorem allF_pre (i : Int) (cs : List (El × Bool)) (k : Nat) : allF i (cs.take k) <+: allF i cs := by
  conv => rhs; rw [← List.take_append_drop k cs, allF_append]
  exact List.prefix_append _ _
theorem allF_lt (i : Int) (cs : List (El × Bool)) (k : Nat) (hk : k < cs.length) (hc : (cs[k]).2 = true) : (allF i (cs.take k)).length < (allF i cs).length := by
  have h := (allF_pre i cs (k + 1)).length_le
  rw [allF_snoc i cs k hk, hc] at h
  simp only [if_true, List.length_append, List.length_singleton] at h
  omega

/-- The places that are not filled, from a number on. -/
def holesF (i : Int) : List (El × Bool) → List Int
  | [] => []
  | c :: cs => if c.2 then holesF (i + 1) cs else i :: holesF (i + 1) cs
theorem holesF_append (i : Int) (a b : List (El × Bool)) : holesF i (a ++ b) = holesF i a ++ holesF (i + a.length) b := by
  induction a generalizing i with
  | nil => simp [holesF]
  | cons c cs ih =>
    have e : i + 1 + (cs.length : Int) = i + ((c :: cs).length : Nat) := by simp only [List.length_cons]; omega
    simp only [List.cons_append, holesF, ih, e]
    split <;> simp
theorem holesF_snoc (i : Int) (cs : List (El × Bool)) (k : Nat) (hk : k < cs.length) : holesF i (cs.take (k + 1)) = holesF i (cs.take k) ++ (if (cs[k]).2 then [] else [i + k]) := by
  rw [List.take_succ_eq_append_getElem hk, holesF_append, List.length_take, Nat.min_eq_left (by omega)]
  simp only [holesF]
theorem holesF_pre (i : Int) (cs : List (El × Bool)) (k : Nat) : holesF i (cs.take k) <+: holesF i cs := by
  conv => rhs; rw [← List.take_append_drop k cs, holesF_append]
  exact List.prefix_append _ _
theorem holesF_lt (i : Int) (cs : List (El × Bool)) (k : Nat) (hk : k < cs.length) (hc : (cs[k]).2 = false) : (holesF i (cs.take k)).length < (holesF i cs).length := by
  have h := (holesF_pre i cs (k + 1)).length_le
  rw [holesF_snoc i cs k hk, hc] at h
  simp only [if_false, Bool.false_eq_true, List.length_append, List.length_singleton] at h
  omega
def runF (i : Int) (cs : List (El × Bool)) : List (Int × El) := allF i (cs.take (nextN cs))
theorem allF_mono (i : Int) (cs : List (El × Bool)) {k n : Nat} (h : k ≤ n) : allF i (cs.take k) <+: allF i (cs.take n) := by
  have := allF_pre i (cs.take n) k
  rwa [List.take_take, Nat.min_eq_left h] at this
theorem nextN_ge (cs : List (El × Bool)) (k : Nat) (hk : k ≤ cs.length) (h : ∀ j (hj : j < cs.length), j < k → (cs[j]).2 = true) : k ≤ nextN cs := by
  induction cs generalizing k with
  | nil => simpa [nextN] using hk
  | cons x l ih =>
    cases k with
    | zero => omega
    | succ k =>
      have h0 : x.2 = true := h 0 (by simp) (by omega)
      have := ih k (by simpa using hk) (fun j hj hjk => h (j + 1) (by simpa using hj) (by omega))
      simp only [nextN] at this ⊢
      simp [List.takeWhile, h0, this]
theorem runF_lt (i : Int) (cs : List (El × Bool)) (k : Nat) (hk : k < cs.length) (hn : k + 1 ≤ nextN cs) (hc : (cs[k]).2 = true) : (allF i (cs.take k)).length < (runF i cs).length := by
  have h := (allF_mono i cs hn).length_le
  rw [allF_snoc i cs k hk, hc] at h
  simp only [if_true, List.length_append, List.length_singleton] at h
  unfold runF
  omega

theorem run_it (n : Nat) (hn : 1 ≤ n) (lo hi B B' : Nat) (f : Int) (cs : List (El × Bool)) (w : World) (h : ItAt w lo hi B B' f cs) (hhi : hi ≤ w.heap.size) (hf1 : 0 ≤ f) (hf2 : f ≤ 1099511627776) (hl : cs.length ≤ 1024) :
    SeqStopsK Fence.wide n Tryz.prog 66 #[.pointer (some ⟨B, 0, none⟩), .pointer (some ⟨B', 0, none⟩)] (fun x : Int × El => #[.int .i64 x.1, (.agg #[.slice (x.2).1.1 (x.2).1.2.1 (x.2).1.2.2, .slice (x.2).2.1 (x.2).2.2.1 (x.2).2.2.2])]) (Between lo hi) (fun xs => xs = runF f cs) (fun pre => pre <+: runF f cs) (runF f cs).length w := by
  intro l J Jx W hW hJ hJx hY h0
  obtain ⟨k1, k2, a, c, h1, h2, h3, h4⟩ := h
  obtain ⟨o1, o2, o3, o4⟩ := own_open h3 rfl
  have H4 : Hid (∀ wr, Between lo hi w wr → wr.cell? ⟨B', 0, none⟩ = some (.int .i64 f) ∧ ∀ k (hk : k < cs.length), ∃ g, a = some ⟨g, 0, none⟩ ∧ g < wr.heap.size ∧ (wr.cell? ⟨g, k * 3, none⟩ = some (.slice cs[k].1.1.1 cs[k].1.1.2.1 cs[k].1.1.2.2) ∧ wr.cell? ⟨g, k * 3 + 1, none⟩ = some (.slice cs[k].1.2.1 cs[k].1.2.2.1 cs[k].1.2.2.2)) ∧ wr.cell? ⟨g, k * 3 + 2, none⟩ = some (.bool cs[k].2)) := by
    intro wr hb
    refine ⟨(cell_same (hb.2 B' k2.1 k2.2)).trans h2, fun k hk => ?_⟩
    obtain ⟨g, e, hlo, hz, r0, r1, _⟩ := o4 k hk
    have hg := hb.2 g hlo (h4 g e)
    exact ⟨g, e, by have := hb.1; omega, ⟨(cell_same hg).trans r0.1, (cell_same hg).trans r0.2⟩, (cell_same hg).trans r1⟩
  have HW := Lib.hid hW
  have HY := Lib.hid hY
  have HJ := Lib.hid hJ
  have c1 := cell_step h1 hW
  have z1 := cell_lt c1
  have hs : hi ≤ W.heap.size := by have := HW.out.size; omega
  clear o4 h1 h2 h3 h4 hW hY hJ hJx k1 k2
  refine callsIn_of_wp Tryz.func66 rfl trivial ?_ rfl
  simp only [Tryz.ntmps66, List.size_toArray, List.length_cons, List.length_nil, Nat.reduceAdd, Nat.reduceSub, Array.replicate_succ, Array.replicate_zero, List.push_toArray, List.append_toArray, List.nil_append, List.cons_append]
  gi_wp2
  gi_loopw [8] (fun i wr => ∃ k : Nat, k ≤ cs.length ∧ i = .int .i64 k ∧ J (allF f (cs.take k)) wr ∧ Between lo hi W wr ∧ Hid (∀ j (hj : j < cs.length), j < k → (cs[j]).2 = true))
    (fun i _ => cs.length - (intOf i).toNat)
  case atStart => exact ⟨0, Nat.zero_le _, rfl, h0, Between.refl _ _ _, fun j hj hk => absurd hk (by omega)⟩
  case round =>
    obtain ⟨k, hk, rfl, hJs, hb, hall⟩ := hrel
    have hwr : Between lo hi w wr := (Between.of_below HW.out hhi).trans hb
    obtain ⟨d1, d2⟩ := H4.out wr hwr
    have HB := Lib.hid hb
    by_cases hlt : k < cs.length
    · obtain ⟨g, rfl, hgz, ⟨r0, r0b⟩, r1⟩ := d2 k hlt
      have hw : IntKind.i64.wrap (f + (k : Int)) = f + k := IntWalk.i64_in _ (by omega)
      clear d2 hb
      cases hc : (cs[k]).2 with
      | false =>
        rw [hc] at r1
        have HS := Lib.hid (allF_snoc f cs k hlt)
        have z2 := cell_lt d1
        have hN : nextN cs = k := nextN_at cs k hlt hall.out hc
        have hS : allF f (cs.take k) = runF f cs := by rw [runF, hN]
        have HR := Lib.hid hS
        clear hN hS
        gi_wp2
        refine ⟨fun _ h => (by cases h), ?_⟩
        gi_wp2
        exact bodyPost_ret (results_none rfl _ _ _) rfl ⟨⟨_, rfl⟩, .inl ⟨_, HR.out, HJ.out _ _ _ none hJs (World.grownBy_alloc _ _ _) (by simp)⟩⟩
      | true =>
        rw [hc] at r1
        have HS := Lib.hid (allF_snoc f cs k hlt)
        have hal : ∀ j (hj : j < cs.length), j < k + 1 → (cs[j]).2 = true := fun j hj hjk => by
          rcases Nat.lt_or_eq_of_le (Nat.le_of_lt_succ hjk) with h | rfl
          · exact hall.out j hj h
          · exact hc
        have hge := nextN_ge cs (k + 1) hlt hal
        have HAL := Lib.hid hal
        clear hal
        have hJ2 := HJ.out _ _ _ none hJs (World.grownBy_alloc wr (.cells #[.slice cs[k].1.1.1 cs[k].1.1.2.1 cs[k].1.1.2.2, .slice cs[k].1.2.1 cs[k].1.2.2.1 cs[k].1.2.2.2, .bool true] 125) none) (by simp)
        have hb2 : Between lo hi W (wr.alloc (.cells #[.slice cs[k].1.1.1 cs[k].1.1.2.1 cs[k].1.1.2.2, .slice cs[k].1.2.1 cs[k].1.2.2.1 cs[k].1.2.2.2, .bool true] 125)) := HB.out.alloc hs _
        have HB2 := Lib.hid hb2
        obtain ⟨fn, tmps, assign, body, hy, hR⟩ := HY.out _ (f + k, cs[k].1) _ hJ2 (runF_lt f cs k hlt hge hc)
        try dsimp only at hy
        have hpr : allF f (cs.take (k + 1)) <+: runF f cs := allF_mono f cs hge
        have HP := Lib.hid hpr
        clear hJ2 hb2 hpr hge
        have z2 := cell_lt d1
        gi_wp2
        refine hR.mono ?_
        rintro e W3 (⟨rfl, hJ3, hk3⟩ | ⟨rfl, hJx3⟩)
        · have HK := Lib.hid hk3
          clear hk3
          gi_wp2
          go_roundw
          case rel => exact ⟨k + 1, by omega, by go_num, by rw [HS.out, hc]; exact hJ3, HB2.out.trans HK.out, HAL⟩
          case measure => simp [intOf]; omega
        · gi_wp2
          exact bodyPost_ret (results_none rfl _ _ _) rfl ⟨⟨_, rfl⟩, .inr ⟨_, HP.out, by rw [HS.out, hc]; exact hJx3⟩⟩
    · obtain rfl : k = cs.length := by omega
      have hS : allF f (cs.take cs.length) = runF f cs := by rw [runF, nextN_all cs (fun j hj => hall.out j hj hj)]
      rw [hS] at hJs
      clear hS
      gi_wp2
      exact bodyPost_end (v := .tuple #[]) (by simp [results, Tryz.results66, go_sem]) rfl ⟨⟨_, rfl⟩, .inl ⟨_, rfl, hJs⟩⟩

end Go.Proofs.YtcaakiaenfkeaaaGreat.logq
