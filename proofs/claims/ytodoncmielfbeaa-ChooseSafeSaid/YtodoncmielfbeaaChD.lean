/-
  Promises in memory: rows of promises over rows of votes over bytes, wherever they lie; what they say as data.
-/
import Derived.Test.YtodoncmielfbeaaAccD
import Derived.Test.YtodoncmielfbeaaChQ
import Derived.Deep.QuietTactic
import Derived.BigQuiet
import Derived.Lib.Hide
namespace Go.Proofs.Ytodoncmielfbeaa.chd
open Go.ChangeShapes Go.WideShapes Go.ChangeAt Go.RowKit
open Go.Proofs.Ytodoncmielfbeaa.kit Go.Proofs.Ytodoncmielfbeaa.mapkit Go.Proofs.Ytodoncmielfbeaa.byt Go.Proofs.Ytodoncmielfbeaa.own Go.Proofs.Ytodoncmielfbeaa.accd
set_option linter.unusedVariables false
set_option linter.unusedSimpArgs false
set_option maxHeartbeats 1000000
set_option maxRecDepth 100000

theorem blk4 {w : World} {b : Nat} {x y z u : Value} {T : TypeId} (h : w.heap[b]? = some (.cells #[x, y, z, u] T (0, 0))) : w.cell? ⟨b, 0, none⟩ = some x ∧ w.cell? ⟨b, 1, none⟩ = some y ∧ w.cell? ⟨b, 2, none⟩ = some z ∧ w.cell? ⟨b, 3, none⟩ = some u ∧ b < w.heap.size := by
  obtain ⟨h1, h2, h3⟩ := blk h
  exact ⟨h1 0, h1 1, h1 2, h1 3, h3⟩
theorem blk4f {w : World} {b : Nat} {x y z u : Value} {T : TypeId} (h : w.heap[b]? = some (.cells #[x, y, z, u] T (0, 0))) : w.frozen? ⟨b, 0, none⟩ = false ∧ w.frozen? ⟨b, 1, none⟩ = false ∧ w.frozen? ⟨b, 2, none⟩ = false ∧ w.frozen? ⟨b, 3, none⟩ = false := by
  obtain ⟨h1, h2, h3⟩ := blk h
  exact ⟨h2 0, h2 1, h2 2, h2 3⟩
theorem blk5 {w : World} {b : Nat} {x y z u t : Value} {T : TypeId} (h : w.heap[b]? = some (.cells #[x, y, z, u, t] T (0, 0))) : w.cell? ⟨b, 0, none⟩ = some x ∧ w.cell? ⟨b, 1, none⟩ = some y ∧ w.cell? ⟨b, 2, none⟩ = some z ∧ w.cell? ⟨b, 3, none⟩ = some u ∧ w.cell? ⟨b, 4, none⟩ = some t ∧ b < w.heap.size := by
  obtain ⟨h1, h2, h3⟩ := blk h
  exact ⟨h1 0, h1 1, h1 2, h1 3, h1 4, h3⟩
theorem blk5f {w : World} {b : Nat} {x y z u t : Value} {T : TypeId} (h : w.heap[b]? = some (.cells #[x, y, z, u, t] T (0, 0))) : w.frozen? ⟨b, 0, none⟩ = false ∧ w.frozen? ⟨b, 1, none⟩ = false ∧ w.frozen? ⟨b, 2, none⟩ = false ∧ w.frozen? ⟨b, 3, none⟩ = false ∧ w.frozen? ⟨b, 4, none⟩ = false := by
  obtain ⟨h1, h2, h3⟩ := blk h
  exact ⟨h2 0, h2 1, h2 2, h2 3, h2 4⟩

/-- A vote that can be read. -/
structure Rd (w : World) (v : Vt) : Prop where
  lie : Lie w v.a (bcells v.l)
  nil : v.a = none → v.l.length = 0 ∧ v.c = 0
  len : v.l.length ≤ 140737488355328
  byt : Byt v.l
  slot : -9223372036854775808 ≤ v.s ∧ v.s ≤ 9223372036854775807
theorem Rd.below {w w' : World} {v : Vt} (h : Rd w v) (hb : Below w.heap.size w w') : Rd w' v := ⟨h.lie.below hb, h.nil, h.len, h.byt, h.slot⟩
/-- What a vote says. -/
def vv (v : Vt) : chp.V := ⟨v.s, v.r, v.n, v.l⟩
/-- A row of votes, wherever it lies. -/
structure RowC (w : World) (a : Option Addr) (xs : List Vt) : Prop where
  row : RowsAt w a 4 (xs.map Vt.cells)
  good : ∀ x ∈ xs, Rd w x
  len : xs.length ≤ 2932031007402
theorem RowC.below {w w' : World} {a : Option Addr} {xs : List Vt} (h : RowC w a xs) (hb : Below w.heap.size w w') : RowC w' a xs := ⟨h.row.below hb, fun x hx => (h.good x hx).below hb, h.len⟩
theorem RowC.cells {w : World} {a : Option Addr} {xs : List Vt} (h : RowC w a xs) (k : Nat) (hk : k < xs.length) :
    ∃ g off, a = some ⟨g, off, none⟩ ∧ g < w.heap.size ∧ w.cell? ⟨g, off + k * 4, none⟩ = some (.int .i64 xs[k].s) ∧ w.cell? ⟨g, off + k * 4 + 1, none⟩ = some (.int .i64 xs[k].r) ∧ w.cell? ⟨g, off + k * 4 + 2, none⟩ = some (.int .i64 xs[k].n) ∧ w.cell? ⟨g, off + k * 4 + 3, none⟩ = some (.slice xs[k].a xs[k].l.length xs[k].c) := by
  rcases h.row with h | ⟨b, off, rfl, hz, h3⟩
  · have : xs = [] := by simpa using h
    subst this; simp at hk
  · have hi : k < (xs.map Vt.cells).length := by simpa using hk
    have e0 := h3 k hi 0 (by omega)
    have e1 := h3 k hi 1 (by omega)
    have e2 := h3 k hi 2 (by omega)
    have e3 := h3 k hi 3 (by omega)
    simp only [List.getElem_map, Nat.add_zero] at e0 e1 e2 e3
    exact ⟨b, off, rfl, hz, e0.trans rfl, e1.trans rfl, e2.trans rfl, e3.trans rfl⟩

/-- A promise as it lies. -/
structure Pt where
  node : Int
  vs : List Vt
  a : Option Addr
  c : Nat
def Pt.cells (p : Pt) : List Value := [.int .i64 p.node, .slice p.a p.vs.length p.c]
def Pt.val (p : Pt) : Value := .agg #[.int .i64 p.node, .slice p.a p.vs.length p.c]
/-- What a promise says. -/
def pv (p : Pt) : chp.Pr := ⟨p.node, p.vs.map vv⟩
structure GoodP (w : World) (p : Pt) : Prop where
  row : RowC w p.a p.vs
  nil : p.a = none → p.vs.length = 0 ∧ p.c = 0
  node : -9223372036854775808 ≤ p.node ∧ p.node ≤ 9223372036854775807
theorem GoodP.below {w w' : World} {p : Pt} (h : GoodP w p) (hb : Below w.heap.size w w') : GoodP w' p := ⟨h.row.below hb, h.nil, h.node⟩
/-- A row of promises, wherever it lies. -/
structure RowP (w : World) (a : Option Addr) (l : List Pt) : Prop where
  row : RowsAt w a 2 (l.map Pt.cells)
  good : ∀ p ∈ l, GoodP w p
  len : l.length ≤ 4398046511104
theorem RowP.below {w w' : World} {a : Option Addr} {l : List Pt} (h : RowP w a l) (hb : Below w.heap.size w w') : RowP w' a l := ⟨h.row.below hb, fun x hx => (h.good x hx).below hb, h.len⟩
theorem RowP.cells {w : World} {a : Option Addr} {l : List Pt} (h : RowP w a l) (k : Nat) (hk : k < l.length) :
    ∃ g off, a = some ⟨g, off, none⟩ ∧ g < w.heap.size ∧ w.cell? ⟨g, off + k * 2, none⟩ = some (.int .i64 l[k].node) ∧ w.cell? ⟨g, off + k * 2 + 1, none⟩ = some (.slice l[k].a l[k].vs.length l[k].c) := by
  rcases h.row with h | ⟨b, off, rfl, hz, h3⟩
  · have : l = [] := by simpa using h
    subst this; simp at hk
  · have hi : k < (l.map Pt.cells).length := by simpa using hk
    have e0 := h3 k hi 0 (by omega)
    have e1 := h3 k hi 1 (by omega)
    simp only [List.getElem_map, Nat.add_zero] at e0 e1
    exact ⟨b, off, rfl, hz, e0.trans rfl, e1.trans rfl⟩

def rightB (nodes : Int) (l : List chp.Pr) : Bool := decide (chp.Right nodes l)

/-- What of a list is right as far as it was looked at. -/
def RightTo (nodes : Int) (l : List chp.Pr) : Prop := (∀ p ∈ l, chp.prOk nodes p = true) ∧ l.Pairwise (fun a b => a.node ≠ b.node)
theorem rightTo_nil (nodes : Int) : RightTo nodes [] := ⟨by simp, List.Pairwise.nil⟩
theorem rightTo_snoc {nodes : Int} {l : List chp.Pr} {p : chp.Pr} : RightTo nodes (l ++ [p]) ↔ RightTo nodes l ∧ chp.prOk nodes p = true ∧ ∀ q ∈ l, q.node ≠ p.node := by
  unfold RightTo
  rw [List.pairwise_append]
  constructor
  · rintro ⟨h1, h2, -, h3⟩
    exact ⟨⟨fun q hq => h1 q (List.mem_append_left _ hq), h2⟩, h1 p (by simp), fun q hq => h3 q hq p (by simp)⟩
  · rintro ⟨⟨h1, h2⟩, h3, h4⟩
    refine ⟨fun q hq => ?_, h2, List.pairwise_singleton _ _, fun a ha b hb => ?_⟩
    · rcases List.mem_append.1 hq with hq | hq
      · exact h1 q hq
      · rw [List.mem_singleton.1 hq]; exact h3
    · rw [List.mem_singleton.1 hb]; exact h4 a ha
theorem rightTo_take {nodes : Int} {l : List chp.Pr} (h : RightTo nodes l) (k : Nat) : RightTo nodes (l.take k) :=
  ⟨fun p hp => h.1 p (List.mem_of_mem_take hp), h.2.sublist (List.take_sublist _ _)⟩
/-- One that is not right as far as it was looked at is not right. -/
theorem right_not {nodes : Int} {l : List chp.Pr} {k : Nat} (h : ¬ RightTo nodes (l.take k)) : rightB nodes l = false := by
  unfold rightB
  exact decide_eq_false (fun hr => h (rightTo_take ⟨hr.2.1, hr.2.2⟩ k))
theorem right_yes {nodes : Int} {l : List chp.Pr} (hn : 1 ≤ nodes ∧ nodes ≤ 5) (h : RightTo nodes l) : rightB nodes l = true := by
  unfold rightB
  exact decide_eq_true ⟨hn, h.1, h.2⟩
theorem right_nodes {nodes : Int} {l : List chp.Pr} (h : nodes < 1 ∨ 5 < nodes) : rightB nodes l = false := by
  unfold rightB
  exact decide_eq_false (fun hr => by have := hr.1; omega)
/-- The last slot of some votes. -/
def lastF : Int → List chp.V → Int
  | last, [] => last
  | _, v :: vs => lastF v.s vs
theorem lastF_snoc (v : chp.V) : ∀ (vs : List chp.V) (last : Int), lastF last (vs ++ [v]) = v.s
  | [], _ => rfl
  | u :: vs, _ => lastF_snoc v vs u.s
/-- A vote that may stand behind a slot. -/
def voteOk (nodes last : Int) (v : chp.V) : Bool := decide (last < v.s) && decide (v.s ≤ 1099511627776) && (decide (1 ≤ v.r) && decide (1 ≤ v.n) && decide (v.n ≤ nodes))
theorem voteOk_cons (nodes last : Int) (v : chp.V) (vs : List chp.V) : chp.lastOk nodes last (v :: vs) = (voteOk nodes last v && chp.lastOk nodes v.s vs) := by
  show (_ && _) = (_ && _)
  unfold voteOk
  congr 1
  cases decide (last < v.s) <;> cases decide (v.s ≤ 1099511627776) <;> cases decide (1 ≤ v.r) <;> cases decide (1 ≤ v.n) <;> cases decide (v.n ≤ nodes) <;> rfl
theorem lastOk_snoc (nodes : Int) (v : chp.V) : ∀ (vs : List chp.V) (last : Int), chp.lastOk nodes last (vs ++ [v]) = (chp.lastOk nodes last vs && voteOk nodes (lastF last vs) v)
  | [], last => by
    show chp.lastOk nodes last [v] = (true && _)
    rw [voteOk_cons]
    show (_ && true) = (true && voteOk nodes last v)
    rw [Bool.and_true, Bool.true_and]
  | u :: vs, last => by
    show chp.lastOk nodes last (u :: (vs ++ [v])) = (chp.lastOk nodes last (u :: vs) && voteOk nodes (lastF u.s vs) v)
    rw [voteOk_cons, voteOk_cons, lastOk_snoc nodes v vs u.s, Bool.and_assoc]
theorem lastOk_take {nodes : Int} : ∀ {vs : List chp.V} {last : Int} (k : Nat), chp.lastOk nodes last vs = true → chp.lastOk nodes last (vs.take k) = true
  | [], _, k, h => by simpa using h
  | u :: vs, last, 0, h => rfl
  | u :: vs, last, k + 1, h => by
    rw [voteOk_cons, Bool.and_eq_true] at h
    rw [List.take_succ_cons, voteOk_cons, Bool.and_eq_true]
    exact ⟨h.1, lastOk_take k h.2⟩
end Go.Proofs.Ytodoncmielfbeaa.chd
