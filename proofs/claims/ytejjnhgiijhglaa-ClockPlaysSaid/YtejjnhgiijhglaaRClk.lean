/-
  The document's clock (purseref07) in memory: place, Due, Stop.
-/
import Derived.Test.YtejjnhgiijhglaaRClkP
import Derived.Test.YtejjnhgiijhglaaClkR
namespace Go.Proofs.Ytejjnhgiijhglaa.rclk
open Go.ChangeShapes Go.WideShapes Go.ChangeAt Go.RowKit
open Go.Proofs.Ytejjnhgiijhglaa.kit Go.Proofs.Ytejjnhgiijhglaa.own Go.Proofs.Ytejjnhgiijhglaa.clkp Go.Proofs.Ytejjnhgiijhglaa.clkr Go.Proofs.Ytejjnhgiijhglaa.rclkp
set_option linter.unusedVariables false
set_option linter.unusedSimpArgs false
set_option maxHeartbeats 1000000
set_option maxRecDepth 100000

def tc (t : T3) : List Value := [.string t.nm, .int .i64 t.due]
def rcells (P : List T3) : List Value := P.flatMap tc
theorem rcells_len (P : List T3) : (rcells P).length = P.length * 2 := by
  induction P with
  | nil => rfl
  | cons p ps ih => simp only [rcells, List.flatMap_cons, List.length_append, List.length_cons] at ih ⊢; rw [ih]; simp [tc]; omega
theorem rcells_append (a b : List T3) : rcells (a ++ b) = rcells a ++ rcells b := by simp [rcells]
theorem rcells_one (P : List T3) : ∀ u ∈ rcells P, u.oneCell' = true := by
  intro u hu
  simp only [rcells, List.mem_flatMap, tc] at hu
  obtain ⟨t, _, h⟩ := hu
  simp at h
  rcases h with rfl | rfl <;> rfl
theorem rcells_get (P : List T3) : ∀ i (h : i < P.length) j, j < 2 → (rcells P)[i * 2 + j]? = (tc P[i])[j]? := by
  induction P with
  | nil => intro i hi; simp at hi
  | cons x l ih =>
    intro i hi j hj
    have h4 : (tc x).length = 2 := rfl
    have e : rcells (x :: l) = tc x ++ rcells l := by simp [rcells]
    rw [e]
    cases i with
    | zero => rw [List.getElem?_append_left (by omega)]; simp
    | succ i =>
      rw [List.getElem?_append_right (by omega), h4, show (i + 1) * 2 + j - 2 = i * 2 + j by omega, ih i (by simpa using hi) j hj]
      rfl
theorem rcells_split {P : List T3} {i : Nat} (hi : i < P.length) : rcells P = rcells (P.take i) ++ (tc P[i] ++ rcells (P.drop (i + 1))) := by
  have e : P = P.take i ++ P[i] :: P.drop (i + 1) := by rw [← List.drop_eq_getElem_cons hi, List.take_append_drop]
  conv => lhs; rw [e]
  rw [rcells_append]
  rfl
theorem infoTmr : (Try.prog.info? 64).map (fun i => (i.zero, i.size, i.bytes)) = some (some (.agg #[.string ⟨#[]⟩, .int .i64 0]), 2, 24) := by kernel_rfl

/-- The document's clock in memory. -/
structure RefAt (w : World) (base b : Nat) (now : Int) (P : List T3) : Prop where
  lo : base ≤ b
  ex : ∃ a c, w.heap[b]? = some (.cells #[.int .i64 now, .slice a P.length c] 38 (0, 0)) ∧ w.ownsRow base 64 2 (.slice a P.length c) P.length (rcells P)
theorem RefAt.below {w w' : World} {base b : Nat} {now : Int} {P : List T3} (h : RefAt w base b now P) (hb : Below w.heap.size w w') : RefAt w' base b now P := by
  obtain ⟨h1, a, c, h2, h3⟩ := h
  exact ⟨h1, a, c, hp_step h2 hb, own_below h3 hb⟩
/-- What a call on the document's clock may change. -/
def CR (w : World) (base : Nat) : Nat → Prop := fun k => base ≤ k ∧ ∃ cs T f, w.heap[k]? = some (.cells cs T f) ∧ (T = 38 ∨ T = 64)
theorem cr_trans {base : Nat} {w w1 w2 : World} (h1 : Keep (CR w base) w w1) (h2 : Keep (CR w1 base) w1 w2) : Keep (CR w base) w w2 := by
  refine ⟨h2.os.trans h1.os, h2.tape.trans h1.tape, h2.output.trans h1.output, Nat.le_trans h1.size h2.size, fun k hk hn => ?_⟩
  have e1 := h1.block k hk hn
  refine (h2.block k (Nat.lt_of_lt_of_le hk h1.size) (fun hs => hn ?_)).trans e1
  obtain ⟨g1, cs, T, f, g2, g3⟩ := hs
  exact ⟨g1, cs, T, f, by rw [← e1]; exact g2, g3⟩
theorem cr_below {base : Nat} {w w1 : World} (h : Keep (CR w base) w w1) (hw : base ≤ w.heap.size) : Below base w w1 := h.below hw (fun k hk e => by have := e.1; omega)
theorem cr_drew (w : World) (base n : Nat) : Keep (CR w base) w (w.drewN n) := (Below.refl w.heap.size w |> fun h => below_drewN h n) |> fun h => ⟨h.os, h.tape, h.output, h.size, fun k hk _ => h.block k hk⟩

theorem rc_cell {w : World} {base g c : Nat} {P : List T3} (h : w.ownsRow base 64 2 (.slice (some ⟨g, 0, none⟩) P.length c) P.length (rcells P)) {k : Nat} (hk : k < P.length) : w.cell? ⟨g, k * 2, none⟩ = some (.string P[k].nm) ∧ w.cell? ⟨g, k * 2 + 1, none⟩ = some (.int .i64 P[k].due) := by
  have e0 := World.ownsRow.cellAt h (k * 2) (by omega)
  have e1 := World.ownsRow.cellAt h (k * 2 + 1) (by omega)
  have r0 := rcells_get P k hk 0 (by omega)
  have r1 := rcells_get P k hk 1 (by omega)
  rw [Nat.add_zero] at r0
  rw [r0] at e0
  rw [r1] at e1
  exact ⟨e0, e1⟩

theorem place_at (w : World) (base b : Nat) (now : Int) (P : List T3) (n : ByteArray) (h : RefAt w base b now P) (hl : P.length ≤ 64) (k : Nat) (hk : k < P.length) (hn : P[k].nm = n) (hb : ∀ j (hj : j < P.length), j < k → P[j].nm ≠ n) :
    Calls Try.prog 29 #[.pointer (some ⟨b, 0, none⟩), .string n] w fun e w' => e = .returned (.int .i64 k) ∧ ∃ m, w' = w.drewN m := by
  obtain ⟨h1, a, c, h2, h3⟩ := h
  obtain ⟨g, rfl⟩ := own_ptr h3 (by omega)
  obtain ⟨b1, b2, hz⟩ := kit.blk h2
  have c1 : w.cell? ⟨b, 1, none⟩ = some (.slice (some ⟨g, 0, none⟩) P.length c) := b1 1
  have hgz := (own_from h3 g rfl).2
  have HR := Lib.hid (fun i hi => rc_cell h3 (k := i) hi)
  have HB := Lib.hid hb
  have HN := Lib.hid hn
  clear h1 h2 h3 b1 b2 hb hn
  go_enter Try.func29, Try.ntmps29
  go_wp2_with fail
  go_loopw [5] (fun iv wr => ∃ j m : Nat, j ≤ k ∧ iv = .int .i64 j ∧ wr = w.drewN m) (fun iv _ => P.length - (intOf iv).toNat)
  case atStart => exact ⟨0, 0, Nat.zero_le _, rfl, rfl⟩
  case round =>
    obtain ⟨j, m, hj, rfl, rfl⟩ := hrel
    have hjl : j < P.length := by omega
    obtain ⟨x0, -⟩ := HR.out j hjl
    obtain ⟨x, hx⟩ : ∃ x, x = P[j].nm := ⟨_, rfl⟩
    rw [← hx] at x0
    have c1' : (w.drewN m).cell? ⟨b, 1, none⟩ = some (.slice (some ⟨g, 0, none⟩) P.length c) := c1
    have x0' : (w.drewN m).cell? ⟨g, j * 2, none⟩ = some (.string x) := x0
    have hz' : b < (w.drewN m).heap.size := hz
    have hgz' : g < (w.drewN m).heap.size := hgz
    by_cases hjk : j < k
    · have heq : (x.toList == n.toList) = false := by rw [eqN]; exact decide_eq_false (by rw [hx]; exact HB.out j hjl hjk)
      clear hx
      go_wp2_with fail
      go_roundw
      case rel => exact ⟨j + 1, _, by omega, by go_num, by first | rfl | (simp only [World.drewN_drewN]; rfl)⟩
      case measure => simp [intOf]; omega
    · obtain rfl : j = k := by omega
      have heq : (x.toList == n.toList) = true := by rw [eqN]; exact decide_eq_true (by rw [hx]; exact HN.out)
      clear hx hj
      go_wp2_with fail
      go_ret
      exact ⟨rfl, _, by first | rfl | (simp only [World.drewN_drewN]; rfl)⟩
theorem place_no (w : World) (base b : Nat) (now : Int) (P : List T3) (n : ByteArray) (h : RefAt w base b now P) (hl : P.length ≤ 64) (hb : ∀ j (hj : j < P.length), P[j].nm ≠ n) :
    Calls Try.prog 29 #[.pointer (some ⟨b, 0, none⟩), .string n] w fun e w' => e = .returned (.int .i64 (-1)) ∧ ∃ m, w' = w.drewN m := by
  obtain ⟨h1, a, c, h2, h3⟩ := h
  obtain ⟨b1, b2, hz⟩ := kit.blk h2
  have c1 : w.cell? ⟨b, 1, none⟩ = some (.slice a P.length c) := b1 1
  have H3 := Lib.hid h3
  have HB := Lib.hid hb
  clear h1 h2 h3 b1 b2 hb
  go_enter Try.func29, Try.ntmps29
  go_wp2_with fail
  go_loopw [5] (fun iv wr => ∃ j m : Nat, j ≤ P.length ∧ iv = .int .i64 j ∧ wr = w.drewN m) (fun iv _ => P.length - (intOf iv).toNat)
  case atStart => exact ⟨0, 0, Nat.zero_le _, rfl, rfl⟩
  case round =>
    obtain ⟨j, m, hj, rfl, rfl⟩ := hrel
    have c1' : (w.drewN m).cell? ⟨b, 1, none⟩ = some (.slice a P.length c) := c1
    have hz' : b < (w.drewN m).heap.size := hz
    by_cases hjl : j < P.length
    · obtain ⟨g, rfl⟩ := own_ptr H3.out (by omega)
      obtain ⟨x0, -⟩ := rc_cell H3.out hjl
      have hgz := (own_from H3.out g rfl).2
      obtain ⟨x, hx⟩ : ∃ x, x = P[j].nm := ⟨_, rfl⟩
      rw [← hx] at x0
      have x0' : (w.drewN m).cell? ⟨g, j * 2, none⟩ = some (.string x) := x0
      have hgz' : g < (w.drewN m).heap.size := hgz
      have heq : (x.toList == n.toList) = false := by rw [eqN]; exact decide_eq_false (by rw [hx]; exact HB.out j hjl)
      clear hx
      go_wp2_with fail
      go_roundw
      case rel => exact ⟨j + 1, _, by omega, by go_num, by first | rfl | (simp only [World.drewN_drewN]; rfl)⟩
      case measure => simp [intOf]; omega
    · obtain rfl : j = P.length := by omega
      clear hj
      go_wp2_with fail
      go_ret
      exact ⟨rfl, m, rfl⟩
end Go.Proofs.Ytejjnhgiijhglaa.rclk
