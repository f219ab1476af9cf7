/-
  Contracts of an acceptor's small functions: New, First, Promised, real, ballot.Less, copied.
-/
import Derived.Test.YtodoncmielfbeaaAccD
import Derived.Deep.QuietTactic
import Derived.BigQuiet
import Derived.Lib.Hide
import Derived.Carry
namespace Go.Proofs.Ytodoncmielfbeaa.acca
open Go.ChangeShapes Go.WideShapes Go.ChangeAt Go.RowKit
open Go.Proofs.Ytodoncmielfbeaa.kit Go.Proofs.Ytodoncmielfbeaa.mapkit Go.Proofs.Ytodoncmielfbeaa.byt Go.Proofs.Ytodoncmielfbeaa.own Go.Proofs.Ytodoncmielfbeaa.accd
set_option linter.unusedVariables false
set_option linter.unusedSimpArgs false
set_option maxHeartbeats 1000000
set_option maxRecDepth 100000

theorem blk4 {w : World} {b : Nat} {x y z u : Value} {T : TypeId} (h : w.heap[b]? = some (.cells #[x, y, z, u] T (0, 0))) : w.cell? ⟨b, 0, none⟩ = some x ∧ w.cell? ⟨b, 1, none⟩ = some y ∧ w.cell? ⟨b, 2, none⟩ = some z ∧ w.cell? ⟨b, 3, none⟩ = some u ∧ b < w.heap.size := by
  obtain ⟨h1, h2, h3⟩ := kit.blk h
  exact ⟨h1 0, h1 1, h1 2, h1 3, h3⟩
theorem blk4f {w : World} {b : Nat} {x y z u : Value} {T : TypeId} (h : w.heap[b]? = some (.cells #[x, y, z, u] T (0, 0))) : w.frozen? ⟨b, 0, none⟩ = false ∧ w.frozen? ⟨b, 1, none⟩ = false ∧ w.frozen? ⟨b, 2, none⟩ = false ∧ w.frozen? ⟨b, 3, none⟩ = false := by
  obtain ⟨h1, h2, h3⟩ := kit.blk h
  exact ⟨h2 0, h2 1, h2 2, h2 3⟩
def lessB (r1 n1 r2 n2 : Int) : Bool := decide (r1 < r2) || (decide (r1 = r2) && decide (n1 < n2))
def realB (r n : Int) : Bool := decide (1 ≤ r) && decide (1 ≤ n)
theorem less_any (r1 n1 r2 n2 : Int) (w : World) :
    Calls Try.prog 19 #[.agg #[.int .i64 r1, .int .i64 n1], .agg #[.int .i64 r2, .int .i64 n2]] w
      fun e w' => e = .returned (.bool (lessB r1 n1 r2 n2)) ∧ Below w.heap.size w w' := by
  rcases Int.lt_trichotomy r1 r2 with h | h | h
  · have hL : Hid (lessB r1 n1 r2 n2 = true) := by simp [Hid, lessB, h]
    go_enter Try.func19, Try.ntmps19
    go_wp2
    go_ret
    exact ⟨by rw [hL.out]; rfl, (((Below.refl _ _).alloc (Nat.le_refl _) _).alloc (by simp) _)⟩
  · subst h
    have hL : Hid (lessB r1 n1 r1 n2 = decide (n1 < n2)) := by simp [Hid, lessB]
    go_enter Try.func19, Try.ntmps19
    go_wp2
    go_ret
    exact ⟨by rw [hL.out]; rfl, (((Below.refl _ _).alloc (Nat.le_refl _) _).alloc (by simp) _)⟩
  · have hL : Hid (lessB r1 n1 r2 n2 = false) := by simp [Hid, lessB]; omega
    have h1 : decide (r1 < r2) = false := by simp; omega
    have h2 : (r1 == r2) = false := by simp; omega
    go_enter Try.func19, Try.ntmps19
    go_wp2
    go_ret
    exact ⟨by rw [hL.out]; simp [h1], (((Below.refl _ _).alloc (Nat.le_refl _) _).alloc (by simp) _)⟩
theorem real_any (r n : Int) (w : World) :
    Calls Try.prog 49 #[.agg #[.int .i64 r, .int .i64 n]] w fun e w' => e = .returned (.bool (realB r n)) ∧ Below w.heap.size w w' := by
  by_cases h : 1 ≤ r
  · have hL : Hid (realB r n = decide (1 ≤ n)) := by simp [Hid, realB, h]
    go_enter Try.func49, Try.ntmps49
    go_wp2
    go_ret
    exact ⟨by rw [hL.out]; rfl, below_new1 _ _⟩
  · have hL : Hid (realB r n = false) := by simp [Hid, realB, h]
    have h1 : decide (1 ≤ r) = false := by simp; omega
    go_enter Try.func49, Try.ntmps49
    go_wp2
    go_ret
    exact ⟨by rw [hL.out]; simp [h1], below_new1 _ _⟩
theorem new_ok (w : World) : Calls Try.prog 20 #[] w fun e w' => e = .returned (.pointer (some ⟨w.heap.size + 1, 0, none⟩)) ∧ AccAt w' w.heap.size (w.heap.size + 1) w.heap.size 0 0 1 [] ∧ Below w.heap.size w w' := by
  have hn := new2 w (.map #[] 0) (.cells #[.int .i64 0, .int .i64 0, .int .i64 1, .map (some w.heap.size)] 98)
  have hb := below_new2 w (.map #[] 0) (.cells #[.int .i64 0, .int .i64 0, .int .i64 1, .map (some w.heap.size)] 98)
  have hm := (map_made w Try.prog 3).alloc (.cells #[.int .i64 0, .int .i64 0, .int .i64 1, .map (some w.heap.size)] 98)
  have HN := Lib.hid hn
  have HB := Lib.hid hb
  have HM := Lib.hid hm
  clear hn hb hm
  have hmm := @run_makeMap Try.prog
  go_enter Try.func20, Try.ntmps20
  go_wp2
  go_ret
  refine ⟨rfl, ⟨HN.out.2.1, ?_, ⟨by omega, by omega⟩, List.Pairwise.nil, by omega, by simp, by simp, by simp⟩, HB.out⟩
  have e : accd.look ([] : List Vt) = fun _ => none := by funext x; cases x <;> first | rfl | (rename_i k _; cases k <;> rfl)
  rw [e]
  exact HM.out
/-- A vote whose value can be read. -/
structure Rd (w : World) (v : Vt) : Prop where
  lie : Lie w v.a (bcells v.l)
  nil : v.a = none → v.l.length = 0 ∧ v.c = 0
  len : v.l.length ≤ 140737488355328
theorem Rd.below {w w' : World} {v : Vt} (h : Rd w v) (hb : Below w.heap.size w w') : Rd w' v := ⟨h.lie.below hb, h.nil, h.len⟩
theorem body_rd {w : World} {base : Nat} {v : Vt} (h : accd.Body w base v) (hl : v.l.length ≤ 140737488355328) : Rd w v := ⟨(body_lie h).1, (body_lie h).2, hl⟩
theorem copied_any (w : World) (v : Vt) (h : Rd w v) : Calls Try.prog 52 #[v.val] w fun e w' => ∃ v', e = .returned (Vt.val v') ∧ lv v' = lv v ∧ accd.Body w' w.heap.size v' ∧ Below w.heap.size w w' := by
  obtain ⟨w2, hw2⟩ : ∃ w2 : World, w2 = (w.alloc (.cells #[.int .i64 v.s, .int .i64 v.r, .int .i64 v.n, .slice v.a v.l.length v.c] 45)).alloc (.cells #[.int .i64 0, .int .i64 0, .int .i64 0, .slice none 0 0] 45) := ⟨_, rfl⟩
  have hb2 : Below w.heap.size w w2 := by rw [hw2]; exact below_new2 _ _ _
  have hn2 := new2 w (.cells #[.int .i64 v.s, .int .i64 v.r, .int .i64 v.n, .slice v.a v.l.length v.c] 45) (.cells #[.int .i64 0, .int .i64 0, .int .i64 0, .slice none 0 0] 45)
  rw [← hw2] at hn2
  obtain ⟨n0, n1, hs2⟩ := hn2
  have HC := Lib.hid (clone_any v.l v.a v.c w2 h.len h.nil (h.lie.below hb2))
  have HB2 := Lib.hid hb2
  have HN0 := Lib.hid n0
  have HN1 := Lib.hid n1
  have HW := Lib.hid hw2
  clear hb2 n0 n1 hw2
  simp only [Vt.val]
  go_enter Try.func52, Try.ntmps52
  go_wp2_with fail
  rw [← HW.out]
  refine HC.out.mono ?_; rintro e w3 ⟨v3, rfl, hown, hb3⟩
  obtain ⟨a3, c3, rfl⟩ := own_shape hown
  have m0 := hp_step HN0.out hb3
  have m1 := hp_step HN1.out hb3
  have hz3 := hb3.size
  have hb := below_step HB2.out hb3
  have HOWN := Lib.hid (own_mono hown (by omega) : w3.ownsRow w.heap.size 5 1 _ _ _)
  have HB := Lib.hid hb
  obtain ⟨p0, p1, p2, p3, pz⟩ := blk4 m0
  obtain ⟨q0, q1, q2, q3, qz⟩ := blk4 m1
  obtain ⟨f0, f1, f2, f3⟩ := blk4f m1
  obtain ⟨-, -, -, t3⟩ := blk4f m0
  have M0 := Lib.hid m0
  have M1 := Lib.hid m1
  clear hown hb3 m0 m1 hb HC HW HB2 HN0 HN1
  go_wp2_with fail
  refine bodyPost_ret (v := .agg #[.int .i64 v.s, .int .i64 v.r, .int .i64 v.n, .slice a3 v.l.length c3]) (by simp [results, Try.results52, go_sem, p0, p1, p2, p3, q0, q1, q2, q3]) rfl ⟨⟨v.s, v.r, v.n, v.l, a3, c3⟩, rfl, rfl, ?_, ?_⟩
  · refine own_kept HOWN.out (fun g hg => ?_)
    have h0 : g ≠ w.heap.size := own_ne HOWN.out M0.out (by decide) g hg
    have h1 : g ≠ w.heap.size + 1 := own_ne HOWN.out M1.out (by decide) g hg
    rw [hp_set_ne (by exact h1), hp_set_ne (by exact h1), hp_set_ne (by exact h1), hp_set_ne (by exact h1), hp_set_ne (by exact h0)]
  · exact ((((HB.out.setCell (p := ⟨w.heap.size, 3, none⟩) (Nat.le_refl _) _).setCell (p := ⟨w.heap.size + 1, 0, none⟩) (by simp) _).setCell (p := ⟨w.heap.size + 1, 1, none⟩) (by simp) _).setCell (p := ⟨w.heap.size + 1, 2, none⟩) (by simp) _).setCell (p := ⟨w.heap.size + 1, 3, none⟩) (by simp) _
end Go.Proofs.Ytodoncmielfbeaa.acca
