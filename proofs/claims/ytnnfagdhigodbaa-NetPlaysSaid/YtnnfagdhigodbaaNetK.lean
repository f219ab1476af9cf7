/-
  The document's net (purseref06.Net) in memory: New, is, apart, Cut.
-/
import Derived.Test.YtnnfagdhigodbaaNetJ
namespace Go.Proofs.Ytnnfagdhigodbaa.netk
open Go.ChangeShapes Go.WideShapes Go.ChangeAt Go.RowKit Go.Shelf
open Go.Proofs.Ytnnfagdhigodbaa.kit Go.Proofs.Ytnnfagdhigodbaa.byt Go.Proofs.Ytnnfagdhigodbaa.netc Go.Proofs.Ytnnfagdhigodbaa.netg Go.Proofs.Ytnnfagdhigodbaa.nets Go.Proofs.Ytnnfagdhigodbaa.nett Go.Proofs.Ytnnfagdhigodbaa.nete Go.Proofs.Ytnnfagdhigodbaa.netf Go.Proofs.Ytnnfagdhigodbaa.netq
set_option linter.unusedVariables false
set_option linter.unusedSimpArgs false
set_option maxHeartbeats 1000000
set_option maxRecDepth 100000

def cu (p : Int × Int) : List Value := [.int .i64 p.1, .int .i64 p.2]
def cucells (Cs : Cuts) : List Value := Cs.flatMap cu
theorem cucells_len (Cs : Cuts) : (cucells Cs).length = Cs.length * 2 := by
  induction Cs with
  | nil => rfl
  | cons p ps ih => simp only [cucells, List.flatMap_cons, List.length_append, List.length_cons] at ih ⊢; rw [ih]; simp [cu]; omega
theorem cucells_append (a b : Cuts) : cucells (a ++ b) = cucells a ++ cucells b := by simp [cucells]
theorem infoPair : (Try.prog.info? 80).map (fun i => (i.zero, i.size, i.bytes)) = some (some (.agg #[.int .i64 0, .int .i64 0]), 2, 16) := by kernel_rfl

structure RefAt (w : World) (base b : Nat) (nodes : Int) (rs : List Pkt) (Cs : Cuts) : Prop where
  lo : base ≤ b
  ex : ∃ a c a2 c2, w.heap[b]? = some (.cells #[.int .i64 nodes, .slice a rs.length c, .slice a2 Cs.length c2] 51 (0, 0)) ∧ w.ownsRow base 48 3 (.slice a rs.length c) rs.length (pkcells rs) ∧ w.ownsRow base 80 2 (.slice a2 Cs.length c2) Cs.length (cucells Cs)
  bodies : ∀ p ∈ rs, Body w base p
theorem RefAt.below {w w' : World} {base b : Nat} {nodes : Int} {rs : List Pkt} {Cs : Cuts} (h : RefAt w base b nodes rs Cs) (hb : Below w.heap.size w w') : RefAt w' base b nodes rs Cs := by
  obtain ⟨h1, ⟨a, c, a2, c2, h2, h3, h4⟩, h6⟩ := h
  exact ⟨h1, ⟨a, c, a2, c2, hp_step h2 hb, own_below h3 hb, own_below h4 hb⟩, fun p hp => own_below (h6 p hp) hb⟩
theorem RefAt.lt {w : World} {base b : Nat} {nodes : Int} {rs : List Pkt} {Cs : Cuts} (h : RefAt w base b nodes rs Cs) : b < w.heap.size := by
  obtain ⟨h1, ⟨a, c, a2, c2, h2, h3, h4⟩, h6⟩ := h
  exact (blk h2).2.2
theorem ref_foot {w : World} {base b : Nat} {nodes : Int} {rs : List Pkt} {Cs : Cuts} (h : RefAt w base b nodes rs Cs) {k : Nat} (hf : Foot w b k) : k < w.heap.size ∧ ∀ cur : Array Value, w.heap[k]? ≠ some (Obj.cells cur 5 (0, 0)) := by
  obtain ⟨h1, ⟨a, c, a2, c2, h2, h3, h4⟩, h6⟩ := h
  rcases (foot_two h2 k).1 hf with rfl | h | h
  · exact ⟨(blk h2).2.2, fun cur e => by rw [h2] at e; simp at e⟩
  · obtain ⟨cur, hcur⟩ := own_heap h3 k h
    exact ⟨(blk hcur).2.2, fun cur e => by rw [hcur] at e; simp at e⟩
  · obtain ⟨cur, hcur⟩ := own_heap h4 k h
    exact ⟨(blk hcur).2.2, fun cur e => by rw [hcur] at e; simp at e⟩
theorem RefAt.keep {w w' : World} {base b : Nat} {nodes : Int} {rs : List Pkt} {Cs : Cuts} (h : RefAt w base b nodes rs Cs) (hk : ∀ k, Foot w b k → w'.heap[k]? = w.heap[k]?) (hb : ∀ (g : Nat) (cur : Array Value), w.heap[g]? = some (Obj.cells cur 5 (0, 0)) → w'.heap[g]? = w.heap[g]?) : RefAt w' base b nodes rs Cs := by
  obtain ⟨h1, ⟨a, c, a2, c2, h2, h3, h4⟩, h6⟩ := h
  refine ⟨h1, ⟨a, c, a2, c2, (hk b (.inl rfl)).trans h2, own_kept h3 (fun g hg => hk g ((foot_two h2 g).2 (.inr (.inl hg)))), own_kept h4 (fun g hg => hk g ((foot_two h2 g).2 (.inr (.inr hg))))⟩, fun p hp => own_kept (h6 p hp) (fun g hg => ?_)⟩
  obtain ⟨cur, hcur⟩ := own_heap (h6 p hp) g hg
  exact hb g cur hcur

theorem rnew_ok (w : World) (n : Int) (h1 : 1 ≤ n) (h2 : n ≤ 5) : Calls Try.prog 18 #[.int .i64 n] w fun e w' => e = .returned (.pointer (some ⟨w.heap.size, 0, none⟩)) ∧ RefAt w' w.heap.size w.heap.size n [] [] ∧ Below w.heap.size w w' := by
  have t1 : decide (n < 1) = false := decide_eq_false (by omega)
  have t2 : decide (5 < n) = false := decide_eq_false (by omega)
  have t3 : ¬ n < 1 := by omega
  have t4 : ¬ 5 < n := by omega
  go_enter Try.func18, Try.ntmps18
  go_wp2_with fail
  go_ret
  exact ⟨rfl, ⟨Nat.le_refl _, ⟨none, 0, none, 0, hp_alloc_new _ _, World.ownsRow_nil _ _ _ _, World.ownsRow_nil _ _ _ _⟩, by simp⟩, below_new1 _ _⟩
theorem rnew_bad (w : World) (n : Int) (h : ¬ (1 ≤ n ∧ n ≤ 5)) : Calls Try.prog 18 #[.int .i64 n] w fun e w' => e = .returned (.pointer none) ∧ w = w' := by
  by_cases h1 : n < 1
  · have t1 : decide (n < 1) = true := decide_eq_true h1
    clear h
    go_enter Try.func18, Try.ntmps18
    go_wp2_with fail
    go_ret
    exact ⟨rfl, rfl⟩
  · have t1 : decide (n < 1) = false := decide_eq_false h1
    have t2 : decide (5 < n) = true := decide_eq_true (by omega)
    have t3 : 5 < n := by omega
    clear h
    go_enter Try.func18, Try.ntmps18
    go_wp2_with fail
    go_ret
    exact ⟨rfl, rfl⟩

theorem ris_any (w : World) (nb : Nat) (n k : Int) (h : w.cell? ⟨nb, 0, none⟩ = some (.int .i64 n)) : Calls Try.prog 43 #[.pointer (some ⟨nb, 0, none⟩), .int .i64 k] w fun e w' => e = .returned (.bool (decide (1 ≤ k ∧ k ≤ n))) ∧ w = w' := by
  by_cases h1 : 1 ≤ k
  · by_cases h2 : k ≤ n
    · rw [decide_eq_true ⟨h1, h2⟩]
      go_enter Try.func43, Try.ntmps43
      go_wp2_with fail
      go_ret
      exact ⟨rfl, rfl⟩
    · rw [decide_eq_false (fun h => h2 h.2)]
      have h2' : n < k := by omega
      have h3 : decide (k ≤ n) = false := decide_eq_false h2
      go_enter Try.func43, Try.ntmps43
      go_wp2_with fail
      go_ret
      exact ⟨rfl, rfl⟩
  · rw [decide_eq_false (fun h => h1 h.1)]
    have h1' : k < 1 := by omega
    have h3 : decide (1 ≤ k) = false := decide_eq_false h1
    go_enter Try.func43, Try.ntmps43
    go_wp2_with fail
    go_ret
    exact ⟨rfl, rfl⟩

theorem infoInt1 : (Try.prog.info? 3).map (fun i => (i.zero, i.size, i.bytes)) = some (some (.int .i64 0), 1, 8) := by kernel_rfl
theorem eqi (d : Nat) (w : World) (x x' : Int) : (Op.equalIn (d + 1) 3 (.int .i64 x) (.int .i64 x')).run Try.prog w = .ok (x == x') w := by
  simp [Op.equalIn, run_underlying Try.underlying3]
theorem part0 (w : World) (x y : Value) (x' : Int) (hx : x = .int .i64 x') : (part 3 #[x, y] 0).run Try.prog w = .ok x w := by
  subst hx
  go_simp
theorem part1 (w : World) (x y : Value) (x' : Int) (hx : y = .int .i64 x') : (part 3 #[x, y] 1).run Try.prog w = .ok y w := by
  subst hx
  go_simp
theorem eq2 (w : World) (x y x' y' : Int) : (binOp .eql 80 (.agg #[.int .i64 x, .int .i64 y]) (.agg #[.int .i64 x', .int .i64 y'])).run Try.prog w = .ok (.bool (x == x' && y == y')) w := by
  have h := run_equalIn_array (P := Try.prog) (w := w) 9999 #[.int .i64 x, .int .i64 y] #[.int .i64 x', .int .i64 y'] Try.underlying80 (info_parts infoInt1).choose_spec.1
  have hc : Try.prog.cellsOf 3 = 1 := by kernel_rfl
  have a1 := part0 w (.int .i64 x) (.int .i64 y) x rfl
  have a2 := part1 w (.int .i64 x) (.int .i64 y) y rfl
  have b1 := part0 w (.int .i64 x') (.int .i64 y') x' rfl
  have b2 := part1 w (.int .i64 x') (.int .i64 y') y' rfl
  have c1 := eqi 9998 w x x'
  have c2 := eqi 9998 w y y'
  rw [hc, show List.range 2 = [0, 1] from rfl] at h
  simp only [Op.eqItems, Sem.run_bind, Nat.zero_mul, Nat.one_mul, a1, a2, b1, b2, c1, c2, Result.andThen_ok] at h
  simp only [binOp]
  simp only [Op.equal, Op.maxDepth, Sem.run_bind, h]
  by_cases e1 : x = x'
  · subst e1
    simp [a2, b2, c2, Result.andThen]
    by_cases e2 : y = y' <;> simp [e2]
  · simp [e1, Result.andThen]

theorem cu_cells {w : World} {base : Nat} {g c : Nat} {Cs : Cuts} (h : w.ownsRow base 80 2 (.slice (some ⟨g, 0, none⟩) Cs.length c) Cs.length (cucells Cs)) {i : Nat} (hi : i < Cs.length) :
    w.cell? ⟨g, i * 2, none⟩ = some (.int .i64 Cs[i].1) ∧ w.cell? ⟨g, i * 2 + 1, none⟩ = some (.int .i64 Cs[i].2) := by
  obtain ⟨hx, hz | ⟨g', c', cur, e', hg, hh, hc, hm, hsz, hcur⟩⟩ := h
  · simp at hz
  simp only [Value.slice.injEq, Option.some.injEq, Addr.mk.injEq, and_true, true_and] at e'
  obtain ⟨rfl, rfl⟩ := e'
  have hl1 : (cucells (Cs.take i)).length = i * 2 := by rw [cucells_len, List.length_take, Nat.min_eq_left (by omega)]
  have hsp : cucells Cs = cucells (Cs.take i) ++ (cu Cs[i] ++ cucells (Cs.drop (i + 1))) := by
    have e : Cs = Cs.take i ++ Cs[i] :: Cs.drop (i + 1) := by rw [← List.drop_eq_getElem_cons hi, List.take_append_drop]
    conv => lhs; rw [e]
    rw [cucells_append]
    rfl
  have hget : ∀ j, j < 2 → w.cell? ⟨g, i * 2 + j, none⟩ = (cu Cs[i])[j]? := by
    intro j hj
    rw [(blk hh).1, ← Array.getElem?_toList, ← List.getElem?_take_of_lt (show i * 2 + j < Cs.length * 2 by omega), hcur, hsp, List.getElem?_append_right (by omega), hl1, List.getElem?_append_left (by show _ < 2; omega)]
    congr 1; omega
  exact ⟨hget 0 (by omega), hget 1 (by omega)⟩

def hitB (x y : Int) (c : Int × Int) : Bool := (c.1 == x && c.2 == y) || (c.1 == y && c.2 == x)
def apartB (Cs : Cuts) (x y : Int) : Bool := Cs.any (hitB x y)
theorem apartB_snoc (Cs : Cuts) (c : Int × Int) (x y : Int) : apartB (Cs ++ [c]) x y = (apartB Cs x y || hitB x y c) := by simp [apartB]

theorem rapart_any (w : World) (base b : Nat) (nodes x y : Int) (rs : List Pkt) (Cs : Cuts) (h : RefAt w base b nodes rs Cs) : Calls Try.prog 44 #[.pointer (some ⟨b, 0, none⟩), .int .i64 x, .int .i64 y] w fun e w' => e = .returned (.bool (apartB Cs x y)) ∧ w = w' := by
  obtain ⟨h1, ⟨a, c, a2, c2, h2, h3, h4⟩, h6⟩ := h
  obtain ⟨d0, d1, d2, f0, f1, f2, hz⟩ := blk3 h2
  have HR : Hid (∀ k (hk : k < Cs.length), ∃ g, a2 = some ⟨g, 0, none⟩ ∧ w.cell? ⟨g, k * 2, none⟩ = some (.int .i64 Cs[k].1) ∧ w.cell? ⟨g, k * 2 + 1, none⟩ = some (.int .i64 Cs[k].2)) := by
    intro k hk
    obtain ⟨g, rfl⟩ := own_ptr h4 (by omega)
    exact ⟨g, rfl, cu_cells h4 hk⟩
  have hcap : Cs.length ≤ maxLen := by
    rcases h4.2 with ⟨hz0, hz1⟩ | ⟨g', cap, cur, e', hgb, hh, hc', hm', _⟩
    · omega
    · omega
  have hcap2 : Cs.length ≤ 9223372036854775807 := by unfold maxLen at hcap; omega
  have heq := eq2
  clear h2 h3 h4 h6 hcap
  go_enter Try.func44, Try.ntmps44
  go_wp2_with fail
  go_loopw [7] (fun i wr => ∃ k : Nat, k ≤ Cs.length ∧ i = .int .i64 k ∧ w = wr ∧ Hid (apartB (Cs.take k) x y = false)) (fun i _ => Cs.length - (intOf i).toNat)
  case atStart => exact ⟨0, Nat.zero_le _, rfl, rfl, (rfl : apartB [] x y = false)⟩
  case round =>
    obtain ⟨k, hk, rfl, rfl, hA⟩ := hrel
    by_cases hlt : k < Cs.length
    · obtain ⟨g, rfl, q0, q1⟩ := HR.out k hlt
      have HS := Lib.hid (show apartB (Cs.take (k + 1)) x y = (apartB (Cs.take k) x y || hitB x y Cs[k]) by rw [List.take_succ_eq_append_getElem hlt, apartB_snoc])
      have HALL := Lib.hid (show hitB x y Cs[k] = true → apartB Cs x y = true from fun h => List.any_eq_true.2 ⟨_, List.getElem_mem hlt, h⟩)
      obtain ⟨p, hp⟩ : ∃ p, p = Cs[k] := ⟨_, rfl⟩
      rw [← hp] at q0 q1 HS HALL
      obtain ⟨p1, p2⟩ := p
      dsimp only at q0 q1
      clear hp
      by_cases e1 : (p1 == x && p2 == y) = true
      · rw [hA.out] at HS
        have hh : hitB x y (p1, p2) = true := by simp only [hitB, e1, Bool.true_or]
        have HT := Lib.hid (HALL.out hh)
        clear hh
        go_wp2_with fail
        go_ret
        exact ⟨by rw [HT.out]; rfl, rfl⟩
      · have e1' : (p1 == x && p2 == y) = false := by simpa using e1
        by_cases e2 : (p1 == y && p2 == x) = true
        · have hh : hitB x y (p1, p2) = true := by simp only [hitB, e1', e2, Bool.false_or]
          have HT := Lib.hid (HALL.out hh)
          clear hh
          go_wp2_with fail
          go_ret
          exact ⟨by rw [HT.out]; rfl, rfl⟩
        · have e2' : (p1 == y && p2 == x) = false := by simpa using e2
          have hh : hitB x y (p1, p2) = false := by simp only [hitB, e1', e2', Bool.false_or]
          have HT := Lib.hid (show apartB (Cs.take (k + 1)) x y = false by rw [HS.out, hA.out, hh]; rfl)
          clear hh
          go_wp2_with fail
          go_roundw
          case rel => exact ⟨k + 1, by omega, by go_num, trivial, HT⟩
          case measure => simp [intOf]; omega
    · obtain rfl : k = Cs.length := by omega
      rw [List.take_length] at hA
      go_wp2_with fail
      go_ret
      exact ⟨by rw [hA.out]; rfl, rfl⟩
end Go.Proofs.Ytnnfagdhigodbaa.netk
