/-
  BallotBest: for every list of things the law returns true, and each argument reads as it did. No condition.
-/
import Derived.Test.YtjhegigcjchegaaRows
import Derived.Test.YtjhegigcjchegaaThing
namespace Go.Proofs.Ytjhegigcjchegaa.ballotBest
open Go.ChangeShapes Go.WideShapes Go.ChangeAt Go.RowKit Go.Joins
open Go.Proofs.Ytjhegigcjchegaa.kit Go.Proofs.Ytjhegigcjchegaa.bal
set_option linter.unusedVariables false
set_option linter.unusedSimpArgs false
set_option maxHeartbeats 2000000

theorem best_thing_nil (a : Option Addr) (cap c : Nat) (w : World) (hcq : w.heap[c]? = some (.cells #[.int .i64 0] 3 (0, 0))) :
    Calls Try.prog 12 #[.slice a 0 cap, .func (.func 13) #[] #[.pointer (some ⟨c, 0, none⟩)]] w
      fun e w' => e = .returned (.tuple #[.agg #[.int .i64 0, .int .i64 0, .int .i64 0], .bool false]) ∧ Keep (· = c) w w' ∧ w'.heap[c]? = some (.cells #[.int .i64 0] 3 (0, 0)) := by
  have HC := Lib.hid hcq
  clear hcq
  go_enter Try.func12, Try.ntmps12
  go_wp2_with fail
  refine wp_loop_rounds 1 ?_
  rw [rounds_succ]
  go_wp2_with fail
  refine bodyPost_ret (v := .tuple #[.agg #[.int .i64 0, .int .i64 0, .int .i64 0], .bool false]) (by simp [results, Try.results12, go_sem]) rfl ⟨rfl, .of_below (below_new3 _ _ _ _), hp_new (hp_new (hp_new HC.out))⟩

/-- Things lie at an address. -/
def ThLie (w : World) (a : Option Addr) (l : List (Int × Int × Int)) : Prop :=
  l = [] ∨ ∃ b off, a = some ⟨b, off, none⟩ ∧ b < w.heap.size ∧ ∀ i (hi : i < l.length), w.cell? ⟨b, off + i * 3, none⟩ = some (.int .i64 l[i].1) ∧ w.cell? ⟨b, off + i * 3 + 1, none⟩ = some (.int .i64 l[i].2.1) ∧ w.cell? ⟨b, off + i * 3 + 2, none⟩ = some (.int .i64 l[i].2.2)

theorem ThLie.below {w w' : World} {a : Option Addr} {l : List (Int × Int × Int)} (h : ThLie w a l) (hb : Below w.heap.size w w') : ThLie w' a l := by
  rcases h with h | ⟨b, off, h1, h2, h3⟩
  · exact .inl h
  · exact .inr ⟨b, off, h1, Nat.lt_of_lt_of_le h2 hb.size, fun i hi => ⟨(hb.cell (p := ⟨b, _, none⟩) h2).trans (h3 i hi).1, (hb.cell (p := ⟨b, _, none⟩) h2).trans (h3 i hi).2.1, (hb.cell (p := ⟨b, _, none⟩) h2).trans (h3 i hi).2.2⟩⟩

theorem best_thing_any (l : List (Int × Int × Int)) (a : Option Addr) (cap c : Nat) (w : World) (hl : l.length ≤ 9223372036854775806) (hcq : w.heap[c]? = some (.cells #[.int .i64 0] 3 (0, 0))) (hat : ThLie w a l) (hne : l ≠ [] → ∀ b off, a = some ⟨b, off, none⟩ → b ≠ c) :
    Calls Try.prog 12 #[.slice a l.length cap, .func (.func 13) #[] #[.pointer (some ⟨c, 0, none⟩)]] w
      fun e w' => e = .returned (.tuple #[.agg #[.int .i64 (bestT l).1, .int .i64 (bestT l).2.1, .int .i64 (bestT l).2.2], .bool (decide (0 < l.length))]) ∧ Keep (· = c) w w' ∧ w'.heap[c]? = some (.cells #[.int .i64 l.length] 3 (0, 0)) := by
  by_cases h0 : l = []
  · subst h0; exact best_thing_nil a cap c w hcq
  · obtain ⟨b, off, rfl, hb, hc⟩ := hat.resolve_left h0
    exact best_thing l b off cap c w hl hb (hne h0 b off rfl) hcq hc

def fsts (l : List (Int × Int × Int)) : List (Int × Int) := l.map fun x => (x.1, x.2.1)
def balCells (l : List (Int × Int)) : List Value := l.flatMap fun x => [.int .i64 x.1, .int .i64 x.2]
theorem balCells_len (l : List (Int × Int)) : (balCells l).length = l.length * 2 := by
  induction l with
  | nil => rfl
  | cons x l ih => simp only [balCells, List.flatMap_cons, List.length_append, List.length_cons, List.length_nil] at *; omega
theorem balCells_one (l : List (Int × Int)) : ∀ u ∈ balCells l, u.oneCell' = true := by
  intro u hu
  simp only [balCells, List.mem_flatMap] at hu
  obtain ⟨x, _, hx⟩ := hu
  simp only [List.mem_cons, List.not_mem_nil, or_false] at hx
  rcases hx with rfl | rfl <;> rfl
theorem balCells_get (l : List (Int × Int)) : ∀ i, i < l.length → (balCells l)[2 * i]? = some (.int .i64 ((l[i]?.getD (0, 0)).1)) ∧ (balCells l)[2 * i + 1]? = some (.int .i64 ((l[i]?.getD (0, 0)).2)) := by
  induction l with
  | nil => intro i hi; simp at hi
  | cons x l ih =>
    intro i hi
    cases i with
    | zero => simp [balCells]
    | succ i =>
      have := ih i (by simpa using hi)
      have e : balCells (x :: l) = .int .i64 x.1 :: .int .i64 x.2 :: balCells l := by simp [balCells]
      rw [e, show 2 * (i + 1) = 2 * i + 1 + 1 by omega]
      simpa using this
theorem lie_bal {w : World} {a : Option Addr} {l : List (Int × Int)} (h : Lie w a (balCells l)) : BalLie w a l := by
  rcases h with h | ⟨b, off, h1, h2, h3⟩
  · left
    have := balCells_len l
    rw [h] at this
    exact List.length_eq_zero_iff.1 (by simp at this; omega)
  · refine .inr ⟨b, off, h1, h2, fun i hi => ?_⟩
    have hl := balCells_len l
    obtain ⟨e1, e2⟩ := balCells_get l i hi
    exact ⟨(h3 (2 * i) (by omega)).trans e1, (h3 (2 * i + 1) (by omega)).trans e2⟩
theorem infoBal : (Try.prog.info? 23).map (fun i => (i.zero, i.size, i.bytes)) = some (some (.agg #[.int .i64 0, .int .i64 0]), 2, 16) := by kernel_rfl

/-- The first thing of a ballot. -/
def firstW (m : Int × Int) (l : List (Int × Int × Int)) : Int × Int × Int := (l.find? fun x => (x.1, x.2.1) == m).getD (0, 0, 0)
theorem firstW_cons (m : Int × Int) (x : Int × Int × Int) (l : List (Int × Int × Int)) : firstW m (x :: l) = if (x.1 == m.1 && x.2.1 == m.2) then x else firstW m l := by
  simp only [firstW, List.find?_cons]
  have : ((x.1, x.2.1) == m) = (x.1 == m.1 && x.2.1 == m.2) := rfl
  rw [this]
  split <;> simp_all

theorem foldl_upperT (l : List (Int × Int × Int)) : ∀ x, ((l.foldl upperT x).1, (l.foldl upperT x).2.1) = (fsts l).foldl upper (x.1, x.2.1) := by
  induction l with
  | nil => intro x; rfl
  | cons y l ih =>
    intro x
    simp only [List.foldl_cons, fsts, List.map_cons]
    rw [ih]
    have : ((upperT x y).1, (upperT x y).2.1) = upper (x.1, x.2.1) (y.1, y.2.1) := by
      unfold upperT upper
      simp only
      split <;> rfl
    rw [this]
    rfl
theorem bestT_fst (l : List (Int × Int × Int)) : ((bestT l).1, (bestT l).2.1) = bestB (fsts l) := by
  cases l with
  | nil => rfl
  | cons x l => exact foldl_upperT l x
theorem firstW_best (l : List (Int × Int × Int)) : ∀ x, firstW ((l.foldl upperT x).1, (l.foldl upperT x).2.1) (x :: l) = l.foldl upperT x := by
  induction l with
  | nil => intro x; simp [firstW_cons]
  | cons y l ih =>
    intro x
    simp only [List.foldl_cons]
    have h := ih (upperT x y)
    have hu : (upperT x y = x ∧ lessB x.1 x.2.1 y.1 y.2.1 = false) ∨ (upperT x y = y ∧ lessB x.1 x.2.1 y.1 y.2.1 = true) := by
      unfold upperT
      cases h : lessB x.1 x.2.1 y.1 y.2.1 <;> simp
    rcases hu with ⟨e, hl⟩ | ⟨e, hl⟩
    · rw [e] at h ⊢
      rw [firstW_cons] at h ⊢
      rw [firstW_cons]
      generalize hz : l.foldl upperT x = z at *
      cases h1 : (x.1 == z.1 && x.2.1 == z.2.1)
      · rw [h1] at h
        simp only [Bool.false_eq_true, if_false] at h ⊢
        cases h2 : (y.1 == z.1 && y.2.1 == z.2.1)
        · simpa using h
        · exfalso
          have t := (foldl_upper (fsts l) (x.1, x.2.1)).2.1
          rw [← foldl_upperT, hz] at t
          simp only [Bool.and_eq_true, beq_iff_eq, Bool.and_eq_false_iff, beq_eq_false_iff_ne] at h1 h2
          rw [Bool.eq_false_iff, ne_eq, lessB_iff] at t hl
          simp only at t
          omega
      · rw [h1] at h
        simpa using h
    · rw [e] at h ⊢
      rw [firstW_cons, if_neg, h]
      have t := (foldl_upper (fsts l) (y.1, y.2.1)).2.1
      rw [← foldl_upperT] at t
      rw [Bool.eq_false_iff, ne_eq, lessB_iff] at t
      rw [lessB_iff] at hl
      simp only [Bool.and_eq_true, beq_iff_eq] at t ⊢
      omega
theorem bestT_first (l : List (Int × Int × Int)) : firstW (bestB (fsts l)) l = bestT l := by
  cases l with
  | nil => rfl
  | cons x l =>
    have := firstW_best l x
    rw [foldl_upperT] at this
    exact this

theorem eqThing (w : World) (a b c d e f : Int) : (binOp .eql 33 (.agg #[.int .i64 a, .int .i64 b, .int .i64 c]) (.agg #[.int .i64 d, .int .i64 e, .int .i64 f])).run Try.prog w = .ok (.bool (a == d && b == e && c == f)) w := by
  cases h : (a == d) <;> cases h2 : (b == e) <;> cases h3 : (c == f) <;> go_simp

theorem fsts_snoc (l : List (Int × Int × Int)) (k : Nat) (h : k < l.length) : fsts (l.take (k + 1)) = fsts (l.take k) ++ [(l[k].1, l[k].2.1)] := by
  rw [take_snoc l k h, fsts, List.map_append]
  rfl

theorem most_ref (L : List (Int × Int)) (ao : Option Addr) (cap : Nat) {tr tn : Int} (h : (tr, tn) = bestB L) (hl : L.length ≤ 9223372036854775807) (w : World) (hat : BalLie w ao L) :
    Calls Try.prog 14 #[.slice ao L.length cap] w fun e w' => e = .returned (.agg #[.int .i64 tr, .int .i64 tn]) ∧ Below w.heap.size w w' := by
  have := refMost_any L ao cap w hl hat
  rw [← h] at this
  exact this

theorem walk_any (l : List (Int × Int × Int)) (a : Option Addr) (cap : Nat) (w : World) (hl : l.length ≤ 5864062014805) (hnil : a = none → l.length = 0 ∧ cap = 0) (hat : ThLie w a l) (hlt : ∀ b off, l ≠ [] → a = some ⟨b, off, none⟩ → b < w.heap.size) :
    Calls Try.prog 5 #[.slice a l.length cap] w fun e w' => e = .returned (.bool true) ∧ Below w.heap.size w w' := by
  have hll : l.length ≤ 9223372036854775806 := by omega
  obtain ⟨i0, hi, hz0, hz1, hz2⟩ := info_parts infoBal
  have HAT : Hid (∀ W, Below w.heap.size w W → ThLie W a l) := fun W hb => hat.below hb
  have HBT := Lib.hid (bestT_first l)
  have HFW : Hid (firstW ((bestT l).1, (bestT l).2.1) l = bestT l) := by simp only [Hid]; rw [bestT_fst]; exact bestT_first l
  have HMB : Hid (((bestT l).1, (bestT l).2.1) = bestB (fsts l)) := bestT_fst l
  obtain ⟨⟨tr, tn, tm⟩, hbest⟩ : ∃ x, x = bestT l := ⟨_, rfl⟩
  have hq := best_thing_any l a cap w.heap.size (w.alloc (.cells #[.int .i64 0] 3)) hll (hp_alloc_new _ _) (hat.below (below_new1 _ _)) (fun h0 b off h => by have := hlt b off h0 h; omega)
  rw [← hbest] at hq HBT HMB HFW
  have HQ := Lib.hid hq
  clear hq hat hlt hbest hnil
  go_enter Try.func5, Try.ntmps5
  go_wp2_with fail
  refine HQ.out.mono ?_
  rintro e w1 ⟨rfl, hk1, hc1⟩
  have HC1 := Lib.hid hc1
  have hB1 : Below w.heap.size w w1 := (below_new1 _ _).trans (hk1.below (by rw [size_new]; omega) (by intro k hk; omega))
  have hs1 : w.heap.size + 1 ≤ w1.heap.size := by have := hk1.size; rw [size_new] at this; exact this
  obtain ⟨c10, f10, z1⟩ := blk1 hc1
  clear hc1 hk1
  go_wp2_with fail
  refine (awake_any _).mono ?_; rintro e w2 ⟨rfl, hb2⟩
  have H2a := Lib.hid (hp_step (hp_new HC1.out) hb2)
  have H2b := Lib.hid (hp_step (hp_alloc_new w1 (.cells #[.int .i64 tr, .int .i64 tn, .int .i64 tm] 33)) hb2)
  have hB2 : Below w.heap.size w w2 := below_step (hB1.alloc hB1.size _) hb2
  have hs2 : w1.heap.size < w2.heap.size := by have := hb2.size; rw [size_new] at this; exact this
  obtain ⟨c20, f20, z20⟩ := blk1 H2a.out
  clear hb2 c10 f10
  go_wp2_with fail
  clear c20 f20
  go_loopw [6, 7] (fun v i wr => ∃ k : Nat, k ≤ l.length ∧ i = .int .i64 k ∧ Below w2.heap.size w2 wr ∧ wr.ownsRow w2.heap.size 23 2 v (fsts (l.take k)).length (balCells (fsts (l.take k))) ∧ (fsts (l.take k)).length = k)
    (fun _ i _ => l.length - (intOf i).toNat)
  case atStart => exact ⟨0, Nat.zero_le _, rfl, Below.refl _ _, World.ownsRow_nil _ _ _ _, rfl⟩
  case round =>
    obtain ⟨k, hk, rfl, hb, hown, hfl⟩ := hrel
    have hsz : wr.heap.size ≥ w2.heap.size := hb.size
    have hBr : Below w.heap.size w wr := hB2.trans (hb.mono hB2.size)
    by_cases hlk : k < l.length
    · obtain ⟨b, off, rfl, hbl, hcs⟩ := (HAT.out _ hBr).resolve_left (by intro h; rw [h] at hlk; exact absurd hlk (by simp))
      obtain ⟨⟨xr, xn, xm⟩, hx⟩ : ∃ x, x = l[k] := ⟨_, rfl⟩
      obtain ⟨cx1, cx2, _⟩ := hcs k hlk
      rw [← hx] at cx1 cx2
      have HF := Lib.hid (fsts_snoc l k hlk)
      rw [← hx] at HF
      have HFL := Lib.hid hfl
      clear hx hcs hfl
      go_wp2_with (at_builtin; refine wpl_append rfl (.tmp 38) (.tmp 44) 37 rfl w2.heap.size 23 i0 (.agg #[.int .i64 0, .int .i64 0]) 2 16 Try.underlying37 hi hz0 hz1 hz2 rfl (by decide) _ _ _ rfl (hown.alloc _) _ 1 1 (balCells [(xr, xn)]) rfl (by simp) rfl ?_ (balCells_one _) ?_ ?_ ?_ ?_)
      · exact .inr ⟨_, 0, rfl, by rw [size_new]; omega, fun i hi => by
          have h0 := (blk2 (hp_alloc_new wr (.cells #[.int .i64 xr, .int .i64 xn] 23)))
          match i, hi with
          | 0, _ => exact h0.1
          | 1, _ => exact h0.2.1⟩
      · have := HFL.out; unfold maxLen; omega
      · have := HFL.out; omega
      · omega
      intro v' w' hown' hgr
      have hlt' := hown.lt
      have hBw : Below w2.heap.size w2 w' := (hb.alloc (by omega) _).grown hgr (by rw [size_new]; omega) (fun k hk => (hlt' k hk).1)
      clear hgr hown hlt'
      go_wp2_with fail
      go_roundw
      case rel => exact ⟨k + 1, by omega, by go_num, hBw, by
          rw [HF.out, List.length_append, balCells, List.flatMap_append]
          exact hown', by rw [HF.out, List.length_append, HFL.out]; rfl⟩
      case measure => simp [intOf]; omega
    · have HFe : Hid (fsts (l.take k) = fsts l) := by simp only [Hid]; rw [List.take_of_length_le (by omega)]
      rw [HFe.out] at hown
      obtain ⟨ao, cap2, rfl, hno, hlie, _⟩ := owned_lie hown
      have HBL : Hid (BalLie wr ao (fsts l)) := lie_bal hlie
      have hfl2 : (fsts l).length ≤ 9223372036854775807 := by simp [fsts]; omega
      obtain ⟨L, hL⟩ : ∃ L, L = fsts l := ⟨_, rfl⟩
      rw [← hL] at HBL HMB HBT hfl2 ⊢
      have HMm := Lib.hid (most_ref L ao cap2 HMB.out hfl2)
      clear hown hlie hno hfl hfl2 hL
      go_wp2_with fail
      refine (HMm.out _ (HBL.out.below (below_new1 _ _))).mono ?_; rintro e w3 ⟨rfl, hb3⟩
      have H3a := Lib.hid (hp_step (hp_alloc_new wr (.cells #[.int .i64 0, .int .i64 0, .int .i64 0] 33)) hb3)
      have hB3 : Below w2.heap.size w2 w3 := below_step (hb.alloc hb.size _) hb3
      have hs3 : wr.heap.size < w3.heap.size := by have := hb3.size; rw [size_new] at this; exact this
      have hsr : w2.heap.size ≤ wr.heap.size := hb.size
      have H4a := Lib.hid (hp_new (o := .cells #[.int .i64 tr, .int .i64 tn] 23) H3a.out)
      have H4b := Lib.hid (hp_alloc_new w3 (.cells #[.int .i64 tr, .int .i64 tn] 23))
      have hB4 : Hid (Below w2.heap.size w2 (w3.alloc (.cells #[.int .i64 tr, .int .i64 tn] 23))) := hB3.alloc hB3.size _
      clear hb3 hB3 hb
      go_wp2_with fail
      have HB0 : Hid (∀ W, Below w2.heap.size w2 W → ThLie W a l) := fun W hW => HAT.out W (hB2.trans (hW.mono hB2.size))
      have H5b := Lib.hid (show (w3.alloc (.cells #[.int .i64 tr, .int .i64 tn] 23)).heap[w1.heap.size]? = _ from (hB4.out.block w1.heap.size hs2).trans H2b.out)
      clear H3a HBL HMm HMB HAT
      go_loopw [10] (fun i wx => ∃ m : Nat, m ≤ l.length ∧ i = .int .i64 ((m : Int) - 1) ∧ Below w2.heap.size w2 wx ∧ wx.heap[w3.heap.size]? = some (.cells #[.int .i64 tr, .int .i64 tn] 23 (0, 0)) ∧
          wx.heap[wr.heap.size]? = some (.cells #[.int .i64 (firstW (tr, tn) (l.drop m)).1, .int .i64 (firstW (tr, tn) (l.drop m)).2.1, .int .i64 (firstW (tr, tn) (l.drop m)).2.2] 33 (0, 0)))
        (fun i _ => (intOf i + 1).toNat)
      case atStart => exact ⟨l.length, Nat.le_refl _, rfl, hB4.out, H4b.out, by rw [List.drop_length]; exact H4a.out⟩
      case round =>
        obtain ⟨wo, rfl⟩ : ∃ wo : World, wo = wr := ⟨_, rfl⟩
        obtain ⟨m, hm, rfl, hb, h0, h1⟩ := hrel
        have H0 := Lib.hid h0
        have H1 := Lib.hid h1
        clear h0 h1
        cases m with
        | zero =>
          rw [show (((0 : Nat) : Int) - 1) = -1 from rfl]
          have e : Hid (firstW (tr, tn) (l.drop 0) = (tr, tn, tm)) := HFW.out
          rw [e.out] at H1
          have H2b' := Lib.hid ((hb.block w1.heap.size hs2).trans H2b.out)
          obtain ⟨c10, c11, c12, _, _, _, z5⟩ := blk3 H1.out
          obtain ⟨c20, c21, c22, _, _, _, z6⟩ := blk3 H2b'.out
          have he := fun w => eqThing w tr tn tm tr tn tm
          have hBf : Hid (Below w.heap.size w wo) := hB2.trans (hb.mono hB2.size)
          go_wp2_with fail
          go_ret
          exact ⟨by simp, hBf.out⟩
        | succ m =>
          rw [show (((m + 1 : Nat) : Int) - 1) = (m : Int) by omega]
          obtain ⟨b, off, rfl, hbl, hcs⟩ := (HB0.out _ hb).resolve_left (by intro h; rw [h] at hm; exact absurd hm (by simp))
          obtain ⟨⟨xr, xn, xm⟩, hx⟩ : ∃ x, x = l[m] := ⟨_, rfl⟩
          obtain ⟨cx1, cx2, cx3⟩ := hcs m (by omega)
          rw [← hx] at cx1 cx2 cx3
          have HD : Hid (l.drop m = (xr, xn, xm) :: l.drop (m + 1)) := by simp only [Hid]; rw [hx]; exact List.drop_eq_getElem_cons (by omega)
          obtain ⟨c10, c11, c12, f10, f11, f12, z5⟩ := blk3 H1.out
          obtain ⟨c20, c21, f20, f21, z6⟩ := blk2 H0.out
          have c1 : decide ((m : Int) < (l.length : Int)) = true := by simp; omega
          have hml : m < l.length := by omega
          have hne : w3.heap.size ≠ wr.heap.size := by omega
          have HBT2 := Lib.hid hb
          clear hx hcs hb
          cases hq : (xr == tr && xn == tn)
          all_goals
            have he := fun w => eqBallot w xr xn tr tn
            rw [hq] at he
            have HQ := Lib.hid hq
            clear hq
            have HFc := Lib.hid (firstW_cons (tr, tn) (xr, xn, xm) (l.drop (m + 1)))
            go_wp2_with fail
            go_quiet (fail)
            go_wp2_with fail
            go_roundw
          case rel => exact ⟨m, by omega, rfl, below_drewN HBT2.out _, H0.out, by rw [HD.out, HFc.out, HQ.out]; exact H1.out⟩
          case measure => simp [intOf]
          case rel =>
            refine ⟨m, by omega, rfl, ?_, ?_, ?_⟩
            · exact put3_below (below_drewN HBT2.out _) hsr _ _ _
            · exact (put3_ne (w := wo.drewN _) hne).trans H0.out
            · rw [HD.out, HFc.out, HQ.out]; exact put3_at (w := wo.drewN _) H1.out
          case measure => simp [intOf]

theorem rows_thing {w : World} {a : Option Addr} {l : List (Int × Int × Int)} (h : RowsAt w a 3 (l.map fun x => [.int .i64 x.1, .int .i64 x.2.1, .int .i64 x.2.2])) : ThLie w a l ∧ ∀ b off, l ≠ [] → a = some ⟨b, off, none⟩ → b < w.heap.size := by
  rcases h with h | ⟨b, off, h1, h2, h3⟩
  · have : l = [] := by simpa using h
    exact ⟨.inl this, fun b off hn => absurd this hn⟩
  · refine ⟨.inr ⟨b, off, h1, h2, fun i hi => ?_⟩, fun b' off' _ e => ?_⟩
    · have hi' : i < (l.map fun x => [Value.int .i64 x.1, Value.int .i64 x.2.1, Value.int .i64 x.2.2]).length := by simpa using hi
      have e0 := h3 i hi' 0 (by omega)
      have e1 := h3 i hi' 1 (by omega)
      have e2 := h3 i hi' 2 (by omega)
      simp only [List.getElem_map, Nat.add_zero] at e0 e1 e2
      exact ⟨e0, e1, e2⟩
    · rw [h1] at e
      simp only [Option.some.injEq, Addr.mk.injEq] at e
      omega

theorem elem_thing {H : Type} {enc : TypeId × Value → H} {W : World} (n : Nat) (cs : List Value) (y : DataW H × List MemPlace) (hlen : cs.length = 3)
    (h : DataW.trod enc Try.prog W 0 (fun _ => true) true n 33 cs = some y) : ∃ x : Int × Int × Int, cs = [.int .i64 x.1, .int .i64 x.2.1, .int .i64 x.2.2] ∧ True := by
  obtain ⟨ys, n', rfl, _, _, _, hf⟩ := DataW.trod_struct Try.underlying33 h
  obtain ⟨c0, c1, c2, rfl⟩ := list3 hlen
  have h0 : DataW.trod enc Try.prog W 0 (fun _ => true) true n' 23 (List.take (Try.prog.cellsOf 23) (List.drop 0 [c0, c1, c2])) = ys[0]? := hf 0 _ rfl
  have h1 : DataW.trod enc Try.prog W 0 (fun _ => true) true n' 3 (List.take (Try.prog.cellsOf 3) (List.drop 2 [c0, c1, c2])) = ys[1]? := hf 1 _ rfl
  have hc0 : Try.prog.cellsOf 23 = 2 := by kernel_rfl
  have hc1 : Try.prog.cellsOf 3 = 1 := by kernel_rfl
  simp only [hc0, hc1, List.drop_zero, List.take_succ_cons, List.take_zero, List.drop_succ_cons] at h0 h1
  cases y0 : ys[0]? with
  | none => rename_i hl _; simp at y0; rw [y0] at hl; cases hl
  | some u =>
    cases y1 : ys[1]? with
    | none => rename_i hl _; simp at y1; have : ys.length = 2 := hl; omega
    | some v =>
      rw [y0] at h0
      rw [y1] at h1
      obtain ⟨x, hx, _⟩ := elem_pair Try.underlying23 (by kernel_rfl) (by kernel_rfl) Try.underlying3 Try.underlying3 _ _ _ h0
      obtain ⟨m, hm, _, _⟩ := DataW.trod_int Try.underlying3 h1
      simp at hx hm
      obtain ⟨rfl, rfl⟩ := hx
      subst hm
      exact ⟨(x.1, x.2, m), rfl, trivial⟩

theorem lawWalk {H : Type} (enc : TypeId × Value → H) : LawWalk enc Try.prog 5 Try.f5 fun _ => True := by
  intro W base args ds p hval hA hsz _
  have hA : DataW.TrodAll enc Try.prog W 0 (fun _ => true) true Try.f5.params.toList args.toList ds p := hA
  have hsz : (DataW.weightsEach Try.prog Try.f5.params.toList ds).all (· ≤ reachBytes) = true := hsz
  rw [Try.params5] at hA hval hsz
  obtain ⟨v0, vs0, d0, ds0, p0, q0, hargs, rfl, rfl, h0, r0⟩ := trodAll_cons hA
  obtain ⟨rfl, rfl, rfl⟩ := trodAll_nil r0
  obtain rfl : args = #[v0] := by cases args; simp_all
  obtain ⟨ao, l, cap, es, sp, rfl, hlc, hcm, hnil, hrows, hd, hel, hsp, _⟩ := open_slice_gen 3 (fun x : Int × Int × Int => [.int .i64 x.1, .int .i64 x.2.1, .int .i64 x.2.2]) (fun _ _ => True) Try.underlying31 (by kernel_rfl) (by omega)
    (fun n cs y hl h => elem_thing n cs y hl h) (hval 0 31 v0 rfl rfl) h0
  have hlen : l.length ≤ 5864062014805 := by
    rcases hd with ⟨_, rfl, _⟩ | rfl
    · simp
    · have h1 := sized_slice hsz (j := 0) (t := 31) (e := 33) rfl rfl Try.underlying31
      have hb : Try.prog.bytesOf 33 = 24 := by kernel_rfl
      rw [hb] at h1
      unfold reachBytes at h1
      omega
  obtain ⟨hth, hlt⟩ := rows_thing hrows
  exact walk_any l ao cap W hlen hnil hth hlt

theorem own : ownKnob Try.prog.godebug = none := by kernel_rfl
theorem laidOut : laidOutB Try.prog = true := by kernel_rfl

set_option maxRecDepth 100000 in
theorem lifted (os : Os) (started : os.Started) (H : Type) (enc : TypeId × Value → H) :
    ReturnsInHanded {} Try.checked os 5 .any (Rows.ballotBestSpec.pre6 enc Try.prog Try.f5 Rows.ballotBestRow.domain false) (Rows.ballotBestSpec.post enc Try.prog Try.f5 false true false false) := by
  refine returnsInHanded_of_change_sized (C := Try.checked) own started (by kernel_rfl) Try.func5
    (ChangeSpec.witness6 (enc := enc) (C := Try.checked) false ⟨#[], #[.slice none 0 0], []⟩ 8 (by kernel_rfl) (by kernel_rfl) (by kernel_rfl) (by kernel_rfl)) ?_
  intro W base args ds gs before hval hW hcnd hsz _
  exact law_post (C := Try.checked) laidOut (fun ds h => by match ds, h with | [_], _ => rfl) 4 rfl Try.underlying4 rfl (by kernel_rfl) hval hW hsz trivial (lawWalk enc)

theorem proved : Rows.BallotBestSaid :=
  OpenClaim.holds_of_wide 5 Try.f5 rfl rfl rfl rfl rfl rfl rfl ⟨rfl, rfl, rfl, rfl, rfl⟩ rfl rfl rfl rfl rfl (by kernel_rfl) Try.func5 (by kernel_rfl)
    (of_decide_eq_true (by kernel_rfl)) (by unfold Func.isWrapper; first | (rw [if_pos (by decide +kernel)]; kernel_rfl) | (rw [if_neg (by decide +kernel)]; exact ⟨rfl, rfl⟩))
    (fun os started H enc _ => lifted os started H enc)
#print axioms proved
end Go.Proofs.Ytjhegigcjchegaa.ballotBest
