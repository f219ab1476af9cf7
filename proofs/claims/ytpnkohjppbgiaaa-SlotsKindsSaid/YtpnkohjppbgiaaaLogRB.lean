/-
  A log of []byte: what All, Run and Holes hand out, and how these sequences go (printed by wip/mklog.py).
-/
import Derived.Test.YtpnkohjppbgiaaaLogCB
import Derived.RangeFuncNested
import Derived.RangeFuncBound
import Derived.RangeFuncCalls
import Derived.RangeFuncLeaves
import Derived.RangeFuncFrom
import Derived.Shelf.Abstract
import Derived.Shelf.RegionOpen
import Derived.OwnWalkIn
import Derived.TacticsInMore
import Derived.LoopNIn
import Derived.LoopIn
namespace Go.Proofs.Ytpnkohjppbgiaaa.logb
open Go.ChangeShapes Go.WideShapes Go.ChangeAt Go.RowKit Go.Shelf
open Go.Proofs.Ytpnkohjppbgiaaa.kit
set_option linter.unusedVariables false
set_option linter.unusedSimpArgs false
set_option maxHeartbeats 1000000
set_option maxRecDepth 100000

/-- Some blocks are as they were. -/
def Between (lo hi : Nat) (W W' : World) : Prop := W.heap.size ≤ W'.heap.size ∧ ∀ j, lo ≤ j → j < hi → W'.heap[j]? = W.heap[j]?
theorem Between.refl (lo hi : Nat) (W : World) : Between lo hi W W := ⟨Nat.le_refl _, fun _ _ _ => rfl⟩
theorem Between.trans {lo hi : Nat} {A B C : World} (h : Between lo hi A B) (k : Between lo hi B C) : Between lo hi A C := ⟨Nat.le_trans h.1 k.1, fun j h1 h2 => (k.2 j h1 h2).trans (h.2 j h1 h2)⟩
theorem Between.of_below {lo hi n : Nat} {A B : World} (h : Below n A B) (hn : hi ≤ n) : Between lo hi A B := ⟨h.size, fun j _ h2 => h.block j (by omega)⟩
theorem Between.alloc {lo hi : Nat} {A B : World} (h : Between lo hi A B) (hi2 : hi ≤ A.heap.size) (o : Obj) : Between lo hi A (B.alloc o) := h.trans (Between.of_below (below_new1 B o) (Nat.le_trans hi2 h.1))
theorem Between.setCell {lo hi : Nat} {A B : World} (h : Between lo hi A B) (p : Addr) (hp : p.block < lo ∨ hi ≤ p.block) (v : Value) : Between lo hi A (B.setCell p v) :=
  h.trans ⟨by rw [size_set]; exact Nat.le_refl _, fun j h1 h2 => hp_set_ne (a := p) (by omega)⟩
theorem between_b {lo hi : Nat} {w : World} (h : hi ≤ w.heap.size) : ∀ (W : World) (l : Nat) (o o' : Obj), w.heap.size ≤ l → W.heap[l]? = some o → o.isCells = false → o.isWalk = false → Between lo hi W (W.putObj l o') := by
  intro W l o o' h1 _ _ _
  have hg := grownBy_putObj' W l o'
  refine ⟨hg.size, fun j _ h3 => ?_⟩
  by_cases hj : j < W.heap.size
  · exact hg.block j hj (by simp; omega)
  · have e : (W.putObj l o').heap.size = W.heap.size := by simp [World.putObj]
    rw [Array.getElem?_eq_none (by omega), Array.getElem?_eq_none (by omega)]
/-- What a sequence's closure has. -/
def ItAt (w : World) (lo hi B B' : Nat) (f : Int) (cs : List (El × Bool)) : Prop :=
  (lo ≤ B ∧ B < hi) ∧ (lo ≤ B' ∧ B' < hi) ∧ ∃ a c, w.cell? ⟨B, 0, none⟩ = some (.slice a cs.length c) ∧ w.cell? ⟨B', 0, none⟩ = some (.int .i64 f) ∧ w.ownsRow lo 89 2 (.slice a cs.length c) cs.length (flat cs) ∧ (∀ g, a = some ⟨g, 0, none⟩ → g < hi)
theorem cell_same {w w' : World} {b o : Nat} (h : w'.heap[b]? = w.heap[b]?) : w'.cell? ⟨b, o, none⟩ = w.cell? ⟨b, o, none⟩ := by simp [World.cell?, h]
theorem own_from {w : World} {base : Nat} {e : TypeId} {size n c : Nat} {a : Option Addr} {xs : List Value} (h : w.ownsRow base e size (.slice a n c) n xs) : ∀ g, a = some ⟨g, 0, none⟩ → base ≤ g ∧ g < w.heap.size := by
  rintro g rfl
  rcases h.2 with ⟨e', hz⟩ | ⟨g', cap, cur, e', hg, hh, _⟩
  · simp at e'
  · simp only [Value.slice.injEq, Option.some.injEq, Addr.mk.injEq, and_true] at e'
    obtain ⟨rfl, _⟩ := e'
    exact ⟨hg, (blk hh).2.2⟩
theorem ItAt.between {w w' : World} {lo hi B B' : Nat} {f : Int} {cs : List (El × Bool)} (h : ItAt w lo hi B B' f cs) (hb : Between lo hi w w') : ItAt w' lo hi B B' f cs := by
  obtain ⟨k1, k2, a, c, h1, h2, h3, h4⟩ := h
  exact ⟨k1, k2, a, c, (cell_same (hb.2 B k1.1 k1.2)).trans h1, (cell_same (hb.2 B' k2.1 k2.2)).trans h2, own_kept h3 (fun g hg => hb.2 g (own_from h3 g hg).1 (h4 g hg)), h4⟩
theorem ItAt.below {w w' : World} {lo hi B B' n : Nat} {f : Int} {cs : List (El × Bool)} (h : ItAt w lo hi B B' f cs) (hb : Below n w w') (hn : hi ≤ n) : ItAt w' lo hi B B' f cs := h.between (Between.of_below hb hn)

theorem seq_start {w w1 : World} {f : Int} {v : Value} {cs : List (El × Bool)} (hv : w1.ownsRow w.heap.size 89 2 v cs.length (flat cs)) (hb : Below w.heap.size w w1) (T1 T2 : TypeId) :
    ItAt ((w1.alloc (.cells #[.int .i64 f] T1)).alloc (.cells #[v] T2)) w.heap.size ((w1.alloc (.cells #[.int .i64 f] T1)).alloc (.cells #[v] T2)).heap.size (w1.heap.size + 1) w1.heap.size f cs ∧ Below w.heap.size w ((w1.alloc (.cells #[.int .i64 f] T1)).alloc (.cells #[v] T2)) := by
  obtain ⟨a, c, rfl⟩ := own_shape hv
  have hn := new2 w1 (.cells #[.int .i64 f] T1) (.cells #[.slice a cs.length c] T2)
  have hs := hb.size
  refine ⟨⟨⟨by omega, by simp only [size_new]; omega⟩, ⟨by omega, by simp only [size_new]; omega⟩, a, c, (blk1 hn.2.1).1, (blk1 hn.1).1, own_below hv (below_new2 _ _ _), fun g hg => ?_⟩, below_step hb (below_new2 _ _ _)⟩
  have := (own_from hv g hg).2
  simp only [size_new]
  omega

theorem all_ok (w : World) (base b : Nat) (f m : Int) (cs : List (El × Bool)) (h : LogAt w base b f m cs) (hF : Fit f m cs) :
    Calls Try.prog 55 #[.pointer (some ⟨b, 0, none⟩)] w fun e w' => ∃ B B', e = .returned (.func (.func 70) #[] #[.pointer (some ⟨B, 0, none⟩), .pointer (some ⟨B', 0, none⟩)]) ∧ ItAt w' w.heap.size w'.heap.size B B' f cs ∧ Below w.heap.size w w' := by
  have HN := Lib.hid (now_ok w base b f m cs h hF)
  go_enter Try.func55, Try.ntmps55
  go_wp2_with fail
  refine HN.out.mono ?_; rintro e w1 ⟨v, rfl, hv, hb1⟩
  obtain ⟨av, cv, rfl⟩ := own_shape hv
  go_wp2_with fail
  exact bodyPost_ret (v := .func (.func 70) #[] #[.pointer (some ⟨w1.heap.size + 1, 0, none⟩), .pointer (some ⟨w1.heap.size, 0, none⟩)]) (by simp [results, Try.results55, go_sem]) rfl ⟨_, _, rfl, (seq_start hv hb1 _ _).1, (seq_start (f := f) hv hb1 _ _).2⟩

/-- The filled places, from a number on. -/
def allF (i : Int) : List (El × Bool) → List (Int × El)
  | [] => []
  | c :: cs => if c.2 then (i, c.1) :: allF (i + 1) cs else allF (i + 1) cs
theorem allF_append (i : Int) (a b : List (El × Bool)) : allF i (a ++ b) = allF i a ++ allF (i + a.length) b := by
  induction a generalizing i with
  | nil => simp [allF]
  | cons c cs ih =>
    have e : i + 1 + (cs.length : Int) = i + ((c :: cs).length : Nat) := by simp only [List.length_cons]; omega
    simp only [List.cons_append, allF, ih, e]
    split <;> simp
theorem allF_snoc (i : Int) (cs : List (El × Bool)) (k : Nat) (hk : k < cs.length) : allF i (cs.take (k + 1)) = allF i (cs.take k) ++ (if (cs[k]).2 then [(i + k, (cs[k]).1)] else []) := by
  rw [List.take_succ_eq_append_getElem hk, allF_append, List.length_take, Nat.min_eq_left (by omega)]
  simp only [allF]
theorem allF_pre (i : Int) (cs : List (El × Bool)) (k : Nat) : allF i (cs.take k) <+: allF i cs := by
  conv => rhs; rw [← List.take_append_drop k cs, allF_append]
  exact List.prefix_append _ _
theorem allF_lt (i : Int) (cs : List (El × Bool)) (k : Nat) (hk : k < cs.length) (hc : (cs[k]).2 = true) : (allF i (cs.take k)).length < (allF i cs).length := by
  have h := (allF_pre i cs (k + 1)).length_le
  rw [allF_snoc i cs k hk, hc] at h
  simp only [if_true, List.length_append, List.length_singleton] at h
  omega

theorem all_it (n : Nat) (hn : 1 ≤ n) (lo hi B B' : Nat) (f : Int) (cs : List (El × Bool)) (w : World) (h : ItAt w lo hi B B' f cs) (hhi : hi ≤ w.heap.size) (hf1 : 0 ≤ f) (hf2 : f ≤ 1099511627776) (hl : cs.length ≤ 1024) :
    SeqStopsK Fence.wide n Try.prog 70 #[.pointer (some ⟨B, 0, none⟩), .pointer (some ⟨B', 0, none⟩)] (fun x : Int × El => #[.int .i64 x.1, (.slice (x.2).1 (x.2).2.1 (x.2).2.2)]) (Between lo hi) (fun xs => xs = allF f cs) (fun pre => pre <+: allF f cs) (allF f cs).length w := by
  intro l J Jx W hW hJ hJx hY h0
  obtain ⟨k1, k2, a, c, h1, h2, h3, h4⟩ := h
  obtain ⟨o1, o2, o3, o4⟩ := own_open h3 rfl
  have H4 : Hid (∀ wr, Between lo hi w wr → wr.cell? ⟨B', 0, none⟩ = some (.int .i64 f) ∧ ∀ k (hk : k < cs.length), ∃ g, a = some ⟨g, 0, none⟩ ∧ g < wr.heap.size ∧ wr.cell? ⟨g, k * 2, none⟩ = some (.slice (cs[k].1).1 (cs[k].1).2.1 (cs[k].1).2.2) ∧ wr.cell? ⟨g, k * 2 + 1, none⟩ = some (.bool cs[k].2)) := by
    intro wr hb
    refine ⟨(cell_same (hb.2 B' k2.1 k2.2)).trans h2, fun k hk => ?_⟩
    obtain ⟨g, e, hlo, hz, r0, r1, _⟩ := o4 k hk
    have hg := hb.2 g hlo (h4 g e)
    exact ⟨g, e, by have := hb.1; omega, (cell_same hg).trans r0, (cell_same hg).trans r1⟩
  have HW := Lib.hid hW
  have HY := Lib.hid hY
  have HJ := Lib.hid hJ
  have c1 := cell_step h1 hW
  have z1 := cell_lt c1
  have hs : hi ≤ W.heap.size := by have := HW.out.size; omega
  clear o4 h1 h2 h3 h4 hW hY hJ hJx k1 k2
  refine callsIn_of_wp Try.func70 rfl trivial ?_ rfl
  simp only [Try.ntmps70, List.size_toArray, List.length_cons, List.length_nil, Nat.reduceAdd, Nat.reduceSub, Array.replicate_succ, Array.replicate_zero, List.push_toArray, List.append_toArray, List.nil_append, List.cons_append]
  gi_wp2
  gi_loopw [8] (fun i wr => ∃ k : Nat, k ≤ cs.length ∧ i = .int .i64 k ∧ J (allF f (cs.take k)) wr ∧ Between lo hi W wr)
    (fun i _ => cs.length - (intOf i).toNat)
  case atStart => exact ⟨0, Nat.zero_le _, rfl, h0, Between.refl _ _ _⟩
  case round =>
    obtain ⟨k, hk, rfl, hJs, hb⟩ := hrel
    have hwr : Between lo hi w wr := (Between.of_below HW.out hhi).trans hb
    obtain ⟨d1, d2⟩ := H4.out wr hwr
    have HB := Lib.hid hb
    by_cases hlt : k < cs.length
    · obtain ⟨g, rfl, hgz, r0, r1⟩ := d2 k hlt
      have hw : IntKind.i64.wrap (f + (k : Int)) = f + k := IntWalk.i64_in _ (by omega)
      clear d2 hb
      cases hc : (cs[k]).2 with
      | false =>
        rw [hc] at r1
        have HS := Lib.hid (allF_snoc f cs k hlt)
        have z2 := cell_lt d1
        gi_wp2
        refine ⟨fun _ h => (by cases h), ?_⟩
        gi_wp2
        go_roundw
        case rel => exact ⟨k + 1, by omega, by go_num, by rw [HS.out, hc]; simpa using HJ.out _ _ _ none hJs (World.grownBy_alloc _ _ _) (by simp), HB.out.alloc hs _⟩
        case measure => simp [intOf]; omega
      | true =>
        rw [hc] at r1
        have HS := Lib.hid (allF_snoc f cs k hlt)
        have hJ2 := HJ.out _ _ _ none hJs (World.grownBy_alloc wr (.cells #[(.slice (cs[k].1).1 (cs[k].1).2.1 (cs[k].1).2.2), .bool true] 89) none) (by simp)
        have hb2 : Between lo hi W (wr.alloc (.cells #[(.slice (cs[k].1).1 (cs[k].1).2.1 (cs[k].1).2.2), .bool true] 89)) := HB.out.alloc hs _
        have HB2 := Lib.hid hb2
        obtain ⟨fn, tmps, assign, body, hy, hR⟩ := HY.out _ (f + k, cs[k].1) _ hJ2 (allF_lt f cs k hlt hc)
        try dsimp only at hy
        have hpr : allF f (cs.take (k + 1)) <+: allF f cs := allF_pre f cs (k + 1)
        have HP := Lib.hid hpr
        clear hJ2 hb2 hpr
        have z2 := cell_lt d1
        gi_wp2
        refine hR.mono ?_
        rintro e W3 (⟨rfl, hJ3, hk3⟩ | ⟨rfl, hJx3⟩)
        · have HK := Lib.hid hk3
          clear hk3
          gi_wp2
          go_roundw
          case rel => exact ⟨k + 1, by omega, by go_num, by rw [HS.out, hc]; exact hJ3, HB2.out.trans HK.out⟩
          case measure => simp [intOf]; omega
        · gi_wp2
          exact bodyPost_ret (results_none rfl _ _ _) rfl ⟨⟨_, rfl⟩, .inr ⟨_, HP.out, by rw [HS.out, hc]; exact hJx3⟩⟩
    · obtain rfl : k = cs.length := by omega
      rw [List.take_length] at hJs
      gi_wp2
      exact bodyPost_end (v := .tuple #[]) (by simp [results, Try.results70, go_sem]) rfl ⟨⟨_, rfl⟩, .inl ⟨_, rfl, hJs⟩⟩

end Go.Proofs.Ytpnkohjppbgiaaa.logb
