/-
  A log of int in memory, and what its functions do (printed by wip/mklog.py).
-/
import Derived.Test.YtpnkohjppbgiaaaKit
import Derived.Test.YtpnkohjppbgiaaaProg
import Derived.Lib.Hide
import Derived.Deep.RegionWith
import Derived.Deep.QuietTactic
import Derived.Deep.RegionHeld3
import Derived.BigQuiet
namespace Go.Proofs.Ytpnkohjppbgiaaa.logi
open Go.ChangeShapes Go.WideShapes Go.ChangeAt Go.RowKit
open Go.Proofs.Ytpnkohjppbgiaaa.kit
set_option linter.unusedVariables false
set_option linter.unusedSimpArgs false
set_option maxHeartbeats 1000000
set_option maxRecDepth 100000

abbrev El := Int
def cel (c : El × Bool) : List Value := [(.int .i64 (c.1)), .bool c.2]
def flat (l : List (El × Bool)) : List Value := l.flatMap cel
theorem flat_cons (x : El × Bool) (l : List (El × Bool)) : flat (x :: l) = cel x ++ flat l := by simp [flat]
theorem flat_len (l : List (El × Bool)) : (flat l).length = l.length * 2 := by
  induction l with
  | nil => rfl
  | cons x l ih => rw [flat_cons, List.length_append, ih]; simp [cel]; omega
theorem flat_one (l : List (El × Bool)) : ∀ u ∈ flat l, u.oneCell' = true := by
  intro u hu
  simp only [flat, List.mem_flatMap] at hu
  obtain ⟨x, _, hx⟩ := hu
  simp only [cel, List.mem_cons, List.not_mem_nil, or_false] at hx
  rcases hx with rfl | rfl <;> rfl
theorem flat_append (a b : List (El × Bool)) : flat (a ++ b) = flat a ++ flat b := by simp [flat]
theorem flat_get (l : List (El × Bool)) : ∀ i (h : i < l.length) j, j < 2 → (flat l)[i * 2 + j]? = (cel l[i])[j]? := by
  induction l with
  | nil => intro i hi; simp at hi
  | cons x l ih =>
    intro i hi j hj
    have h4 : (cel x).length = 2 := rfl
    rw [flat_cons]
    cases i with
    | zero => rw [List.getElem?_append_left (by omega)]; simp
    | succ i =>
      rw [List.getElem?_append_right (by omega), h4, show (i + 1) * 2 + j - 2 = i * 2 + j by omega, ih i (by simpa using hi) j hj]
      rfl
theorem flat_drop (l : List (El × Bool)) (k : Nat) : flat (l.drop k) = (flat l).drop (k * 2) := by
  induction l generalizing k with
  | nil => simp [flat]
  | cons x l ih =>
    cases k with
    | zero => simp
    | succ k => rw [flat_cons, List.drop_succ_cons, ih, show (k + 1) * 2 = k * 2 + 2 by omega]; rfl
theorem flat_set (l : List (El × Bool)) (k : Nat) (x : El) (y : Bool) : flat (l.set k (x, y)) = ((flat l).set (k * 2) (.int .i64 (x))).set (k * 2 + 1) (.bool y) := by
  induction l generalizing k with
  | nil => simp [flat]
  | cons u l ih =>
    cases k with
    | zero => simp [flat, cel]
    | succ k => rw [List.set_cons_succ, flat_cons, flat_cons, ih]; simp only [cel, show (k + 1) * 2 = k * 2 + 2 by omega, show k * 2 + 2 + 1 = k * 2 + 1 + 2 by omega, List.cons_append, List.nil_append, List.set_cons_succ]

/-- A log lies in memory. -/
def LogAt (w : World) (base b : Nat) (f m : Int) (cs : List (El × Bool)) : Prop :=
  base ≤ b ∧ ∃ a c, w.heap[b]? = some (.cells #[.int .i64 f, .int .i64 m, .slice a cs.length c] 75 (0, 0)) ∧ w.ownsRow base 77 2 (.slice a cs.length c) cs.length (flat cs)
structure Fit (f m : Int) (cs : List (El × Bool)) : Prop where
  f1 : 1 ≤ f
  f2 : f ≤ 1099511627776
  m1 : 1 ≤ m
  m2 : m ≤ 1024
  len : (cs.length : Int) ≤ m

theorem own_below {w w' : World} {base : Nat} {e : TypeId} {size : Nat} {v : Value} {n : Nat} {xs : List Value} (h : w.ownsRow base e size v n xs) (hb : Below w.heap.size w w') : w'.ownsRow base e size v n xs := by
  obtain ⟨h1, h2⟩ := h
  refine ⟨h1, ?_⟩
  rcases h2 with h2 | ⟨g, cap, cur, hv, hg, hh, r⟩
  · exact .inl h2
  · exact .inr ⟨g, cap, cur, hv, hg, hp_step hh hb, r⟩
theorem own_mono {w : World} {base base' : Nat} {e : TypeId} {size : Nat} {v : Value} {n : Nat} {xs : List Value} (h : w.ownsRow base e size v n xs) (hb : base' ≤ base) : w.ownsRow base' e size v n xs := by
  obtain ⟨h1, h2⟩ := h
  refine ⟨h1, ?_⟩
  rcases h2 with h2 | ⟨g, cap, cur, hv, hg, hh, r⟩
  · exact .inl h2
  · exact .inr ⟨g, cap, cur, hv, by omega, hh, r⟩
/-- The rows lie in a block that another block is not. -/
theorem own_kept {w w' : World} {base : Nat} {e : TypeId} {size n : Nat} {a : Option Addr} {cap : Nat} {xs : List Value} (h : w.ownsRow base e size (.slice a n cap) n xs) (hk : ∀ g, a = some ⟨g, 0, none⟩ → w'.heap[g]? = w.heap[g]?) : w'.ownsRow base e size (.slice a n cap) n xs := by
  obtain ⟨h1, h2⟩ := h
  refine ⟨h1, ?_⟩
  rcases h2 with h2 | ⟨g', cap', cur, hv, hg, hh, r⟩
  · exact .inl h2
  · have e1 : a = some ⟨g', 0, none⟩ := by simp only [Value.slice.injEq] at hv; exact hv.1
    exact .inr ⟨g', cap', cur, hv, hg, (hk g' e1).trans hh, r⟩
/-- What the rows are: where they lie, each cell. -/
theorem own_open {w : World} {base : Nat} {a : Option Addr} {c n : Nat} {cs : List (El × Bool)} (h : w.ownsRow base 77 2 (.slice a n c) n (flat cs)) (hn : n = cs.length) :
    n ≤ c ∧ c ≤ maxLen ∧ (a = none → n = 0 ∧ c = 0) ∧ ∀ k (hk : k < cs.length), ∃ g, a = some ⟨g, 0, none⟩ ∧ base ≤ g ∧ g < w.heap.size ∧ w.cell? ⟨g, k * 2, none⟩ = some (.int .i64 (cs[k].1)) ∧ w.cell? ⟨g, k * 2 + 1, none⟩ = some (.bool cs[k].2) ∧ (∃ cur, w.heap[g]? = some (.cells cur 77 (0, 0))) := by
  subst hn
  rcases h.2 with ⟨e, hz⟩ | ⟨g, cap, cur, e, hg, hh, hc, hm, hsz, hx⟩
  · simp only [Value.slice.injEq] at e
    obtain ⟨rfl, e1, rfl⟩ := e
    exact ⟨by omega, by simp [maxLen], fun _ => ⟨hz, rfl⟩, fun k hk => by omega⟩
  · simp only [Value.slice.injEq] at e
    obtain ⟨rfl, e1, rfl⟩ := e
    have hb := blk hh
    have gt : ∀ i, i < cs.length * 2 → w.cell? ⟨g, i, none⟩ = (flat cs)[i]? := by
      intro i hi
      rw [hb.1 i, ← hx, List.getElem?_take, if_pos hi, Array.getElem?_toList]
    refine ⟨hc, hm, by simp, fun k hk => ⟨g, rfl, hg, hb.2.2, ?_, ?_, cur, hh⟩⟩
    · rw [gt _ (by omega)]; exact (flat_get cs k hk 0 (by omega)).trans rfl
    · rw [gt _ (by omega)]; exact (flat_get cs k hk 1 (by omega)).trans rfl
theorem LogAt.below {w w' : World} {base b : Nat} {f m : Int} {cs : List (El × Bool)} (h : LogAt w base b f m cs) (hb : Below w.heap.size w w') : LogAt w' base b f m cs := by
  obtain ⟨h0, a, c, h1, h2⟩ := h
  exact ⟨h0, a, c, hp_step h1 hb, own_below h2 hb⟩
theorem LogAt.lt {w : World} {base b : Nat} {f m : Int} {cs : List (El × Bool)} (h : LogAt w base b f m cs) : base ≤ b ∧ b < w.heap.size := by
  obtain ⟨h0, a, c, h1, h2⟩ := h
  exact ⟨h0, (blk3 h1).2.2.2.2.2.2⟩

theorem new_ok (w : World) (f m : Int) : Calls Try.prog 47 #[.int .i64 f, .int .i64 m] w fun e w' => e = .returned (.pointer (some ⟨w.heap.size, 0, none⟩)) ∧ LogAt w' w.heap.size w.heap.size (min (max f 1) 1099511627776) (min (max m 1) 1024) [] ∧ Below w.heap.size w w' := by
  go_enter Try.func47, Try.ntmps47
  go_wp2_with fail
  all_goals go_ret
  all_goals refine ⟨rfl, ⟨Nat.le_refl _, none, 0, (hp_alloc_new w _).trans ?_, World.ownsRow_nil _ _ _ _⟩, below_new1 _ _⟩
  all_goals simp only [List.length_nil, Option.some.injEq, Obj.cells.injEq, and_true, Array.mk.injEq, List.cons.injEq, Value.int.injEq, true_and]
  all_goals omega

theorem first_ok (w : World) (base b : Nat) (f m : Int) (cs : List (El × Bool)) (h : LogAt w base b f m cs) : Calls Try.prog 11 #[.pointer (some ⟨b, 0, none⟩)] w fun e w' => e = .returned (.int .i64 f) ∧ w = w' := by
  obtain ⟨h0, a, c, h1, h2⟩ := h
  obtain ⟨c0, c1, c2, _, _, _, hz⟩ := blk3 h1
  go_enter Try.func11, Try.ntmps11
  go_wp2_with fail
  go_ret
  exact ⟨rfl, rfl⟩

theorem top_raw (w : World) (b : Nat) (f : Int) (a : Option Addr) (n c : Nat) (h0 : w.cell? ⟨b, 0, none⟩ = some (.int .i64 f)) (h2 : w.cell? ⟨b, 2, none⟩ = some (.slice a n c)) (hf : 0 ≤ f) (hf2 : f ≤ 1099511627776) (hn : n ≤ 1024) :
    Calls Try.prog 45 #[.pointer (some ⟨b, 0, none⟩)] w fun e w' => e = .returned (.int .i64 (f + n)) ∧ Below w.heap.size w w' := by
  have hw : IntKind.i64.wrap (f + n) = f + n := IntWalk.i64_in _ (by omega)
  have hbz : b < w.heap.size := cell_lt h0
  go_enter Try.func45, Try.ntmps45
  go_wp2_with fail
  go_quiet (fail)
  go_wp2_with fail
  go_ret
  exact ⟨rfl, below_drewN (Below.refl _ _) _⟩
theorem top_ok (w : World) (base b : Nat) (f m : Int) (cs : List (El × Bool)) (h : LogAt w base b f m cs) (hF : Fit f m cs) : Calls Try.prog 45 #[.pointer (some ⟨b, 0, none⟩)] w fun e w' => e = .returned (.int .i64 (f + cs.length)) ∧ Below w.heap.size w w' := by
  obtain ⟨h0, a, c, h1, h2⟩ := h
  obtain ⟨c0, c1, c2, _, _, _, hz⟩ := blk3 h1
  have hl := hF.len; have hf1 := hF.f1; have hf2 := hF.f2; have hm := hF.m2
  exact top_raw w b f a cs.length c c0 c2 (by omega) hf2 (by omega)

/-- What a place holds. -/
def look (f : Int) (cs : List (El × Bool)) (i : Int) : El × Bool := if i < f then (0, false) else cs[(i - f).toNat]?.getD (0, false)

theorem get_ok (w : World) (base b : Nat) (f m : Int) (cs : List (El × Bool)) (i : Int) (h : LogAt w base b f m cs) (hF : Fit f m cs) (hi1 : -9223372036854775808 ≤ i) (hi2 : i ≤ 9223372036854775807) :
    Calls Try.prog 13 #[.pointer (some ⟨b, 0, none⟩), .int .i64 i] w fun e w' => e = .returned (.tuple #[(.int .i64 ((look f cs i).1)), .bool (look f cs i).2]) ∧ Below w.heap.size w w' := by
  obtain ⟨h0, a, c, h1, h2⟩ := h
  obtain ⟨c0, c1, c2, f0, f1, f2, hz⟩ := blk3 h1
  have hlen := hF.len; have hf1 := hF.f1; have hf2 := hF.f2; have hm2 := hF.m2
  by_cases hlt : i < f
  · have hlk : look f cs i = (0, false) := by rw [look, if_pos hlt]
    rw [hlk]
    go_enter Try.func13, Try.ntmps13
    go_wp2_with fail
    exact bodyPost_ret (v := .tuple #[(.int .i64 (0)), .bool false]) (by simp [results, Try.results13, go_sem]) rfl ⟨rfl, Below.refl _ _⟩
  · have hlt' : f ≤ i := by omega
    have HT := Lib.hid (top_raw w b f a cs.length c c0 c2 (by omega) hf2 (by omega))
    by_cases hge : f + (cs.length : Int) ≤ i
    · have hlk : look f cs i = (0, false) := by rw [look, if_neg hlt, List.getElem?_eq_none (by omega)]; rfl
      rw [hlk]
      clear hlk
      go_enter Try.func13, Try.ntmps13
      go_wp2_with fail
      refine HT.out.mono ?_; rintro e w1 ⟨rfl, hb1⟩
      have HB := Lib.hid hb1
      clear hb1
      go_wp2_with fail
      exact bodyPost_ret (v := .tuple #[(.int .i64 (0)), .bool false]) (by simp [results, Try.results13, go_sem]) rfl ⟨rfl, HB.out⟩
    · obtain ⟨k, hk⟩ : ∃ k : Nat, i = f + k := ⟨(i - f).toNat, by omega⟩
      have hkl : k < cs.length := by omega
      have hw : IntKind.i64.wrap (i - f) = (k : Int) := by rw [hk]; rw [IntWalk.i64_in _ (by omega)]; omega
      obtain ⟨o1, o2, o3, o4⟩ := own_open h2 rfl
      obtain ⟨g, rfl, hg, hgz, r0, r1, _⟩ := o4 k hkl
      have hlk : look f cs i = cs[k] := by rw [look, if_neg hlt, show (i - f).toNat = k by omega, List.getElem?_eq_getElem hkl]; rfl
      rw [hlk]
      obtain ⟨⟨x, y⟩, hx⟩ : ∃ x, x = cs[k] := ⟨_, rfl⟩
      rw [← hx] at r0 r1 ⊢
      have h2' := Lib.hid h2
      clear hx hlk h2 o4 h1
      have hge' : i < f + (cs.length : Int) := by omega
      clear hge hlt
      have HK := Lib.hid hk
      clear hk
      have n0 : (0 : Int) ≤ (k : Int) := by omega
      have n1 : (k : Int) < (cs.length : Int) := by omega
      obtain ⟨n, hn⟩ : ∃ n, n = cs.length := ⟨_, rfl⟩
      rw [← hn] at *
      go_enter Try.func13, Try.ntmps13
      go_wp2_with fail
      refine HT.out.mono ?_; rintro e w1 ⟨rfl, hb1⟩
      have k0 := cell_step c0 hb1
      have k2 := cell_step c2 hb1
      have j0 := cell_step r0 hb1
      have j1 := cell_step r1 hb1
      have z1 := cell_lt k0
      have z2 := cell_lt j0
      have HB := Lib.hid hb1
      clear hb1 c0 c1 c2 f0 f1 f2 r0 r1
      go_wp2_with fail
      go_region
      go_wp2_with fail
      go_quiet (fail)
      go_wp2_with fail
      exact bodyPost_ret (v := .tuple #[(.int .i64 (x)), .bool y]) (by simp [results, Try.results13, go_sem]) rfl ⟨rfl, below_drewN (below_drewN (HB.out.alloc HB.out.size _) 1) _⟩

def lenOf : Option Value → Nat
  | some (.slice _ n _) => n
  | _ => 0
def padL (cs : List (El × Bool)) (n : Nat) : List (El × Bool) := cs ++ List.replicate (n - cs.length) (0, false)
def putE (f m i : Int) : Int := if i < f then 80 else if m ≤ i - f then 81 else 0
def putC (f m : Int) (cs : List (El × Bool)) (i : Int) (v : El) : List (El × Bool) := if i < f ∨ m ≤ i - f then cs else (padL cs ((i - f).toNat + 1)).set (i - f).toNat (v, true)
theorem padL_len (cs : List (El × Bool)) (n : Nat) : (padL cs n).length = max cs.length n := by simp only [padL, List.length_append, List.length_replicate]; omega
theorem put_fit {f m : Int} {cs : List (El × Bool)} (h : Fit f m cs) (i : Int) (v : El) : Fit f m (putC f m cs i v) := by
  refine ⟨h.f1, h.f2, h.m1, h.m2, ?_⟩
  have hl := h.len
  unfold putC
  split
  · exact hl
  · rw [List.length_set, padL_len]; omega

theorem infoCell : (Try.prog.info? 77).map (fun i => (i.zero, i.size, i.bytes)) = some (some (.agg #[(.int .i64 (0)), .bool false]), 2, 16) := by kernel_rfl

theorem own_shape {w : World} {base : Nat} {e : TypeId} {size : Nat} {v : Value} {n : Nat} {xs : List Value} (h : w.ownsRow base e size v n xs) : ∃ a c, v = .slice a n c := by
  rcases h.2 with ⟨rfl, rfl⟩ | ⟨g, cap, cur, rfl, hg, hh, hc, hm, hsz, hx⟩
  · exact ⟨none, 0, rfl⟩
  · exact ⟨_, cap, rfl⟩
theorem own_apart {w : World} {base b : Nat} {a : Option Addr} {n c : Nat} {xs : List Value} {cs : Array Value} (h : w.ownsRow base 77 2 (.slice a n c) n xs) (hb : w.heap[b]? = some (.cells cs 75 (0, 0))) : ∀ g, a = some ⟨g, 0, none⟩ → g ≠ b := by
  rintro g rfl rfl
  rcases h.2 with ⟨e, hz⟩ | ⟨g', cap, cur, e, hg, hh, _⟩
  · simp at e
  · simp only [Value.slice.injEq, Option.some.injEq, Addr.mk.injEq, and_true] at e
    obtain ⟨rfl, _⟩ := e
    rw [hb] at hh
    simp only [Option.some.injEq, Obj.cells.injEq] at hh
    exact absurd hh.2.1 (by decide)
theorem log_append {w w5 : World} {base b : Nat} {f m : Int} {a : Option Addr} {n c : Nat} {xs ys : List Value} {v5 : Value}
    (hrow : w.heap[b]? = some (.cells #[.int .i64 f, .int .i64 m, .slice a n c] 75 (0, 0))) (hown : w.ownsRow base 77 2 (.slice a n c) n xs)
    (hgr : w.grownBy w5 (Value.slice a n c).ownBlock) (hown5 : w5.ownsRow base 77 2 v5 (n + 1) ys) :
    ∃ a' c', v5 = .slice a' (n + 1) c' ∧ w5.heap[b]? = some (.cells #[.int .i64 f, .int .i64 m, .slice a n c] 75 (0, 0)) ∧
      (w5.setCell ⟨b, 2, none⟩ v5).heap[b]? = some (.cells #[.int .i64 f, .int .i64 m, v5] 75 (0, 0)) ∧ (w5.setCell ⟨b, 2, none⟩ v5).ownsRow base 77 2 v5 (n + 1) ys := by
  obtain ⟨a', c', rfl⟩ := own_shape hown5
  have hne : (Value.slice a n c).ownBlock ≠ some b := by
    intro e
    rcases hown.2 with ⟨e', _⟩ | ⟨g', cap, cur, e', hg, hh, _⟩
    · rw [e'] at e; simp [Value.ownBlock] at e
    · rw [e'] at e
      simp only [Value.ownBlock, Option.some.injEq] at e
      have e2 : a = some ⟨g', 0, none⟩ := by simp only [Value.slice.injEq] at e'; exact e'.1
      exact own_apart hown hrow g' e2 e
  have h5 : w5.heap[b]? = some (.cells #[.int .i64 f, .int .i64 m, .slice a n c] 75 (0, 0)) := (hgr.block b (blk3 hrow).2.2.2.2.2.2 (fun e => hne e.symm)).trans hrow
  exact ⟨a', c', rfl, h5, hp_set h5 2 _, own_kept hown5 (fun g hg => hp_set_ne (own_apart hown5 h5 g hg))⟩

theorem own_set {w : World} {base g : Nat} {n c k : Nat} {cs : List (El × Bool)} (h : w.ownsRow base 77 2 (.slice (some ⟨g, 0, none⟩) n c) n (flat cs)) (x : El) (y : Bool) :
    ((w.setCell ⟨g, k * 2, none⟩ (.int .i64 (x))).setCell ⟨g, k * 2 + 1, none⟩ (.bool y)).ownsRow base 77 2 (.slice (some ⟨g, 0, none⟩) n c) n (flat (cs.set k (x, y))) := by
  obtain ⟨h1, h2⟩ := h
  refine ⟨by rw [flat_len, List.length_set, ← flat_len]; exact h1, ?_⟩
  rcases h2 with ⟨e, hz⟩ | ⟨g', cap, cur, e, hg, hh, hc, hm, hsz, hx⟩
  · simp at e
  · simp only [Value.slice.injEq, Option.some.injEq, Addr.mk.injEq, and_true, true_and] at e
    obtain ⟨rfl, rfl⟩ := e
    refine .inr ⟨g, c, _, rfl, hg, hp_set (hp_set hh _ _) _ _, hc, hm, by simp [hsz], ?_⟩
    rw [flat_set, ← hx]
    simp only [Array.toList_setIfInBounds, List.take_set]

theorem put_ok (w : World) (base b : Nat) (f m : Int) (cs : List (El × Bool)) (i : Int) (v : El) (h : LogAt w base b f m cs) (hF : Fit f m cs) (hbw : base ≤ w.heap.size) (hi1 : -9223372036854775808 ≤ i) (hi2 : i ≤ 9223372036854775807) :
    Calls Try.prog 14 #[.pointer (some ⟨b, 0, none⟩), .int .i64 i, (.int .i64 (v))] w fun e w' => e = .returned (.int .i64 (putE f m i)) ∧ LogAt w' base b f m (putC f m cs i v) ∧ Below base w w' := by
  have hL := h
  obtain ⟨h0, a, c, h1, h2⟩ := h
  obtain ⟨c0, c1, c2, f0, f1, f2, hz⟩ := blk3 h1
  have hlen := hF.len; have hf1 := hF.f1; have hf2 := hF.f2; have hm2 := hF.m2
  by_cases hlt : i < f
  · have e1 : putE f m i = 80 := by rw [putE, if_pos hlt]
    have e2 : putC f m cs i v = cs := by rw [putC, if_pos (.inl hlt)]
    rw [e1, e2]
    clear e1 e2
    go_enter Try.func14, Try.ntmps14
    go_wp2_with fail
    go_ret
    exact ⟨rfl, hL, Below.refl _ _⟩
  · have hw0 : IntKind.i64.wrap (i - f) = i - f := IntWalk.i64_in _ (by omega)
    by_cases hge : m ≤ i - f
    · have e1 : putE f m i = 81 := by rw [putE, if_neg hlt, if_pos hge]
      have e2 : putC f m cs i v = cs := by rw [putC, if_pos (.inr hge)]
      rw [e1, e2]
      clear e1 e2
      go_enter Try.func14, Try.ntmps14
      go_wp2_with fail
      go_quiet (fail)
      go_wp2_with fail
      go_ret
      exact ⟨rfl, hL.below (below_drewN (Below.refl _ _) _), below_drewN (Below.refl _ _) _⟩
    · obtain ⟨k, hk⟩ : ∃ k : Nat, i = f + k := ⟨(i - f).toNat, by omega⟩
      have hk0 : (i - f).toNat = k := by omega
      have e1 : putE f m i = 0 := by rw [putE, if_neg hlt, if_neg hge]
      have e2 : putC f m cs i v = (padL cs (k + 1)).set k (v, true) := by rw [putC, if_neg (by omega), hk0]
      have hw : IntKind.i64.wrap (i - f) = (k : Int) := by rw [hw0]; omega
      rw [e1, e2]
      have hkm : k < 1024 := by omega
      have hKK := Lib.hid hk
      obtain ⟨j0, hj, hy0, hy1, hy2⟩ := info_parts infoCell
      have hge' : (i - f) < m := by omega
      have hlt' : f ≤ i := by omega
      have hg2 : ¬ m ≤ (k : Int) := by omega
      have H2 := Lib.hid h2
      have H1 := Lib.hid h1
      have HL := Lib.hid hL
      clear e1 e2 hk hge hk0 h1 h2 hL hw0
      go_enter Try.func14, Try.ntmps14
      go_wp2_with fail
      go_quiet (fail)
      go_wp2_with fail
      go_loopw [30] (fun _ wr => ∃ j : Nat, j ≤ k + 1 - cs.length ∧ Hid (LogAt wr base b f m (cs ++ List.replicate j (0, false))) ∧ Hid (Below base w wr)) (fun _ wr => k + 1 - lenOf (wr.cell? ⟨b, 2, none⟩))
      case atStart => exact ⟨0, Nat.zero_le _, by simpa [Hid] using HL.out.below (below_drewN (Below.refl _ _) _), below_drewN (Below.refl _ _) _⟩
      case round =>
        obtain ⟨j, hj1, hLr, hBr⟩ := hrel
        obtain ⟨ds, hds⟩ : ∃ ds, ds = cs ++ List.replicate j (0, false) := ⟨_, rfl⟩
        rw [← hds] at hLr
        have hdl : ds.length = cs.length + j := by rw [hds]; simp
        have HDS := Lib.hid hds
        clear hds
        have HLR := Lib.hid hLr.out
        obtain ⟨_, a1, n1, q1, q2⟩ := hLr.out
        have Q1 := Lib.hid q1
        have Q2 := Lib.hid q2
        obtain ⟨d0, d1, d2, g0, g1, g2, z1⟩ := blk3 q1
        have hdm : ds.length ≤ 1024 := by omega
        have hDL := Lib.hid hdl
        clear hdl
        have hT := top_raw wr b f a1 ds.length n1 d0 d2 (by omega) hf2 hdm
        have HT := Lib.hid hT
        clear hT q1 q2 hLr
        by_cases hle : ds.length ≤ k
        · have hle' : f + (ds.length : Int) ≤ i := by have := hKK.out; omega
          go_wp2_with fail
          refine HT.out.mono ?_; rintro e w4 ⟨rfl, hb4⟩
          have hn4 := hp_step Q1.out hb4
          have ho4 := own_below Q2.out hb4
          have hs4 := hb4.size
          have hB4 : Below base w w4 := hBr.out.trans (Below.mono hb4 (Nat.le_trans hbw hBr.out.size))
          obtain ⟨e0, e1, e2, x0, x1, x2, z4⟩ := blk3 hn4
          have HN4 := Lib.hid hn4
          have HO4 := Lib.hid ho4
          have HB4 := Lib.hid hB4
          have hs5 := hB4.size
          clear d0 d1 d2 g0 g1 g2 hn4 ho4 hb4 hB4
          go_wp2_with (at_builtin; refine wpl_append rfl (.tmp 37) (.tmp 39) 73 rfl base 77 j0 _ 2 16 Try.underlying73 hj hy0 hy1 hy2 rfl (by decide) (.slice a1 ds.length n1) ds.length (flat ds) rfl (HO4.out.alloc _) (some ⟨w4.heap.size, 0, none⟩) 1 1 [(.int .i64 (0)), .bool false] rfl (by simp) rfl ?hL (by simp [Value.oneCell']) (by unfold maxLen; omega) (by omega) ?hB ?_)
          case hL => exact .inr ⟨_, 0, rfl, by rw [size_new]; omega, fun i hi => by rw [Nat.zero_add, (blk (hp_alloc_new _ _)).1]; match i, hi with | 0, _ => rfl | 1, _ => rfl⟩
          case hB => rw [size_new]; omega
          intro v5 w5 hown hgr
          obtain ⟨a5, n5, rfl, hn5, hn6, ho6⟩ := log_append (hp_new HN4.out) (HO4.out.alloc _) hgr hown
          have hB5 : Below base w w5 := (HB4.out.alloc (by omega) _).grown hgr (by rw [size_new]; omega) (fun j hj => (HO4.out.lt j hj).1)
          have hfl : flat ds ++ [(.int .i64 (0)), .bool false] = flat (ds ++ [(0, false)]) := by rw [flat_append]; rfl
          rw [hfl] at ho6
          obtain ⟨w6, hw6⟩ : ∃ w6 : World, w6 = w5.setCell ⟨b, 2, none⟩ (.slice a5 (ds.length + 1) n5) := ⟨_, rfl⟩
          have hB6 : Below base w w6 := by rw [hw6]; exact hB5.setCell (p := ⟨b, 2, none⟩) h0 _
          rw [← hw6] at hn6 ho6
          have hds6 : ds ++ [(0, false)] = cs ++ List.replicate (j + 1) (0, false) := by rw [HDS.out, List.append_assoc, List.replicate_succ']
          have hL6 : LogAt w6 base b f m (cs ++ List.replicate (j + 1) (0, false)) := by
            refine ⟨h0, a5, n5, ?_, ?_⟩
            · rw [← hds6, List.length_append]; exact hn6
            · rw [← hds6, List.length_append]; exact ho6
          have hm6 : k + 1 - lenOf (w6.cell? ⟨b, 2, none⟩) < k + 1 - lenOf (wr.cell? ⟨b, 2, none⟩) := by
            rw [(blk3 hn6).2.2.1, (blk3 Q1.out).2.2.1]; simp only [lenOf]; omega
          obtain ⟨e0, e1, e2, x0, x1, x2, z5⟩ := blk3 hn5
          have HW6 := Lib.hid hw6
          have HL6 := Lib.hid hL6
          have HB6 := Lib.hid hB6
          have HM6 := Lib.hid hm6
          clear hw6 hL6 hB6 hm6 hn6 ho6 hn5 hown hgr hB5 hfl
          go_wp2_with fail
          rw [← HW6.out]
          go_roundw
          case rel => exact ⟨j + 1, by have := hDL.out; omega, HL6, HB6⟩
          case measure => exact HM6.out
        · have hle' : ¬ f + (ds.length : Int) ≤ i := by have := hKK.out; omega
          have hnk : k < ds.length := by omega
          obtain ⟨o1, o2, o3, o4⟩ := own_open Q2.out rfl
          obtain ⟨g, rfl, hg, hgz, r0, r1, cur, hcur⟩ := o4 k hnk
          have hb0 := hBr.out.size
          have hdsp : ds = padL cs (k + 1) := by
            have e := HDS.out
            have e2 := hDL.out
            rw [e, padL, show j = k + 1 - cs.length by omega]
          have HDP := Lib.hid hdsp
          have N0 : (0 : Int) ≤ (k : Int) := by omega
          have N1 : (k : Int) < (ds.length : Int) := by omega
          clear hdsp o4 o3
          go_wp2_with fail
          refine HT.out.mono ?_; rintro e w4 ⟨rfl, hb4⟩
          have k0 := cell_step d0 hb4
          have k2 := cell_step d2 hb4
          have j0 := cell_step r0 hb4
          have j1 := cell_step r1 hb4
          have z1 := cell_lt k0
          have z2 := cell_lt j0
          have y0 := (blk (hp_step hcur hb4)).2.1 (k * 2)
          have y1 := (blk (hp_step hcur hb4)).2.1 (k * 2 + 1)
          have HB := Lib.hid hb4
          have hn4 := hp_step Q1.out hb4
          have ho4 := own_below Q2.out hb4
          have hB4 : Below base w w4 := hBr.out.trans (Below.mono hb4 (Nat.le_trans hbw hBr.out.size))
          have HN4 := Lib.hid hn4
          have HO4 := Lib.hid ho4
          have HB4 := Lib.hid hB4
          clear hb4 d0 d1 d2 g0 g1 g2 r0 r1 hn4 ho4 hB4 hcur
          go_wp2_with fail
          go_region
          go_wp2_with fail
          go_ret
          refine ⟨rfl, LogAt.below ?_ (below_drewN (Below.refl _ _) 1), below_drewN ?_ 1⟩
          · rw [← HDP.out]
            refine ⟨h0, some ⟨g, 0, none⟩, n1, ?_, ?_⟩
            · rw [List.length_set]
              exact (hp_set_ne (a := ⟨g, k * 2 + 1, none⟩) (own_apart HO4.out HN4.out g rfl).symm).trans ((hp_set_ne (a := ⟨g, k * 2, none⟩) (own_apart HO4.out HN4.out g rfl).symm).trans HN4.out)
            · rw [List.length_set]
              exact own_set HO4.out v true
          · exact (HB4.out.setCell (p := ⟨g, k * 2, none⟩) hg _).setCell (p := ⟨g, k * 2 + 1, none⟩) hg _
end Go.Proofs.Ytpnkohjppbgiaaa.logi
