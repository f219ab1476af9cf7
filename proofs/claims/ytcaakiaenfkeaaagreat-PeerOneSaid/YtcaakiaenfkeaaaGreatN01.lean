/-
  Lemmas of this seat's own, about no program in particular: the frame of a law whose walk leaves all that was there as it was.
-/
import Derived.WalkKit
import Derived.ProofKit
import Derived.OpenShut
import Derived.ShutString
import Derived.Below
import Derived.SizedLaws
import Derived.JoinedCond
import Derived.Deep.CondSized
import Derived.Lib.SmallJoins
import Derived.Laws.AppendOwnNone
import Derived.WalkSpells
import Derived.Deep.Slices
import Derived.Deep.Fields
import Derived.WalkLawsBesides
import Derived.Laws.OwnMore
import Derived.Deep.RegionLaw
import Derived.Deep.RegionHeld3
import Derived.Maps.AppendAt
namespace Go.Proofs.YtcaakiaenfkeaaaGreat.kit
open Go.ChangeShapes Go.WideShapes Go.ChangeAt Go.RowKit Go.Joins
set_option linter.unusedVariables false
set_option linter.unusedSimpArgs false

/-- Behind a contract that ends in 'Below': every cell of an old block reads as it did. -/
theorem bcell {W w1 : World} (hb : Below W.heap.size W w1) : (∀ b o, b < W.heap.size → w1.cell? ⟨b, o, none⟩ = W.cell? ⟨b, o, none⟩) ∧ (∀ b o, b < W.heap.size → w1.frozen? ⟨b, o, none⟩ = W.frozen? ⟨b, o, none⟩) :=
  ⟨fun b o h => hb.cell (p := ⟨b, o, none⟩) h, fun b o h => hb.frozen (p := ⟨b, o, none⟩) h⟩

/-- A block known whole: its cells, and that none is frozen. -/
theorem blk {w : World} {b : Nat} {cs : Array Value} {T : TypeId} (h : w.heap[b]? = some (.cells cs T (0, 0))) :
    (∀ o, w.cell? ⟨b, o, none⟩ = cs[o]?) ∧ (∀ o, w.frozen? ⟨b, o, none⟩ = false) ∧ b < w.heap.size := by
  refine ⟨fun o => by simp [World.cell?, h], fun o => by simp [World.frozen?, h], ?_⟩
  have := Array.getElem?_eq_some_iff.1 h
  exact this.1

/-- A block of two cells. -/
theorem blk2 {w : World} {b : Nat} {x y : Value} {T : TypeId} (h : w.heap[b]? = some (.cells #[x, y] T (0, 0))) :
    w.cell? ⟨b, 0, none⟩ = some x ∧ w.cell? ⟨b, 1, none⟩ = some y ∧ w.frozen? ⟨b, 0, none⟩ = false ∧ w.frozen? ⟨b, 1, none⟩ = false ∧ b < w.heap.size := by
  obtain ⟨h1, h2, h3⟩ := blk h
  exact ⟨h1 0, h1 1, h2 0, h2 1, h3⟩
theorem blk3 {w : World} {b : Nat} {x y z : Value} {T : TypeId} (h : w.heap[b]? = some (.cells #[x, y, z] T (0, 0))) :
    w.cell? ⟨b, 0, none⟩ = some x ∧ w.cell? ⟨b, 1, none⟩ = some y ∧ w.cell? ⟨b, 2, none⟩ = some z ∧ w.frozen? ⟨b, 0, none⟩ = false ∧ w.frozen? ⟨b, 1, none⟩ = false ∧ w.frozen? ⟨b, 2, none⟩ = false ∧ b < w.heap.size := by
  obtain ⟨h1, h2, h3⟩ := blk h
  exact ⟨h1 0, h1 1, h1 2, h2 0, h2 1, h2 2, h3⟩
theorem blk1 {w : World} {b : Nat} {x : Value} {T : TypeId} (h : w.heap[b]? = some (.cells #[x] T (0, 0))) :
    w.cell? ⟨b, 0, none⟩ = some x ∧ w.frozen? ⟨b, 0, none⟩ = false ∧ b < w.heap.size := by
  obtain ⟨h1, h2, h3⟩ := blk h
  exact ⟨h1 0, h2 0, h3⟩

theorem hp_alloc_new (w : World) (o : Obj) : (w.alloc o).heap[w.heap.size]? = some o := by
  show (w.heap.push o)[w.heap.size]? = _
  simp
theorem hp_alloc_old {w : World} {o : Obj} {k : Nat} (h : k < w.heap.size) : (w.alloc o).heap[k]? = w.heap[k]? := Below.heap_alloc w o k h
theorem hp_set {w : World} {b : Nat} {cs : Array Value} {T : TypeId} {f : Nat × Nat} (h : w.heap[b]? = some (.cells cs T f)) (o : Nat) (v : Value) :
    (w.setCell ⟨b, o, none⟩ v).heap[b]? = some (.cells (cs.setIfInBounds o v) T f) := by
  simp only [World.setCell, Array.getElem?_modify, h]
  simp
theorem hp_set_ne {w : World} {a : Addr} {v : Value} {k : Nat} (h : k ≠ a.block) : (w.setCell a v).heap[k]? = w.heap[k]? := Below.heap_setCell w a v k h

theorem size_set (w : World) (a : Addr) (v : Value) : (w.setCell a v).heap.size = w.heap.size := by simp [World.setCell]
theorem size_new (w : World) (o : Obj) : (w.alloc o).heap.size = w.heap.size + 1 := by show (w.heap.push o).size = _; simp
theorem hp_new {w : World} {o : Obj} {k : Nat} {x : Obj} (h : w.heap[k]? = some x) : (w.alloc o).heap[k]? = some x := by
  rw [hp_alloc_old (Array.getElem?_eq_some_iff.1 h).1, h]
/-- A block of two (three, one) cells that is stored whole. -/
def put1 (w : World) (b : Nat) (u : Value) : World := w.setCell ⟨b, 0, none⟩ u
def put2 (w : World) (b : Nat) (u v : Value) : World := (w.setCell ⟨b, 0, none⟩ u).setCell ⟨b, 1, none⟩ v
def put3 (w : World) (b : Nat) (u v x : Value) : World := ((w.setCell ⟨b, 0, none⟩ u).setCell ⟨b, 1, none⟩ v).setCell ⟨b, 2, none⟩ x
theorem put1_at {w : World} {b : Nat} {x u : Value} {T : TypeId} (h : w.heap[b]? = some (.cells #[x] T (0, 0))) : (put1 w b u).heap[b]? = some (.cells #[u] T (0, 0)) := hp_set h 0 u
theorem put2_at {w : World} {b : Nat} {x y u v : Value} {T : TypeId} (h : w.heap[b]? = some (.cells #[x, y] T (0, 0))) : (put2 w b u v).heap[b]? = some (.cells #[u, v] T (0, 0)) := hp_set (hp_set h 0 u) 1 v
theorem put3_at {w : World} {b : Nat} {x y z u v t : Value} {T : TypeId} (h : w.heap[b]? = some (.cells #[x, y, z] T (0, 0))) : (put3 w b u v t).heap[b]? = some (.cells #[u, v, t] T (0, 0)) := hp_set (hp_set (hp_set h 0 u) 1 v) 2 t
theorem put1_ne {w : World} {b k : Nat} {u : Value} (h : k ≠ b) : (put1 w b u).heap[k]? = w.heap[k]? := hp_set_ne h
theorem put2_ne {w : World} {b k : Nat} {u v : Value} (h : k ≠ b) : (put2 w b u v).heap[k]? = w.heap[k]? := (hp_set_ne h).trans (hp_set_ne h)
theorem put3_ne {w : World} {b k : Nat} {u v t : Value} (h : k ≠ b) : (put3 w b u v t).heap[k]? = w.heap[k]? := (hp_set_ne h).trans ((hp_set_ne h).trans (hp_set_ne h))
theorem put1_size (w : World) (b : Nat) (u : Value) : (put1 w b u).heap.size = w.heap.size := by simp [put1, size_set]
theorem put2_size (w : World) (b : Nat) (u v : Value) : (put2 w b u v).heap.size = w.heap.size := by simp [put2, size_set]
theorem put3_size (w : World) (b : Nat) (u v t : Value) : (put3 w b u v t).heap.size = w.heap.size := by simp [put3, size_set]
theorem put1_below {B : Nat} {a w : World} (h : Below B a w) {b : Nat} (hb : B ≤ b) (u : Value) : Below B a (put1 w b u) := h.setCell hb u
theorem put2_below {B : Nat} {a w : World} (h : Below B a w) {b : Nat} (hb : B ≤ b) (u v : Value) : Below B a (put2 w b u v) := (h.setCell (p := ⟨b, 0, none⟩) hb u).setCell (p := ⟨b, 1, none⟩) hb v
theorem put3_below {B : Nat} {a w : World} (h : Below B a w) {b : Nat} (hb : B ≤ b) (u v t : Value) : Below B a (put3 w b u v t) := ((h.setCell (p := ⟨b, 0, none⟩) hb u).setCell (p := ⟨b, 1, none⟩) hb v).setCell (p := ⟨b, 2, none⟩) hb t

theorem new1 (w : World) (x : Obj) : (w.alloc x).heap[w.heap.size]? = some x ∧ (w.alloc x).heap.size = w.heap.size + 1 := ⟨hp_alloc_new w x, size_new w x⟩
theorem new2 (w : World) (x y : Obj) : ((w.alloc x).alloc y).heap[w.heap.size]? = some x ∧ ((w.alloc x).alloc y).heap[w.heap.size + 1]? = some y ∧ ((w.alloc x).alloc y).heap.size = w.heap.size + 1 + 1 := by
  refine ⟨hp_new (hp_alloc_new w x), ?_, by rw [size_new, size_new]⟩
  have := hp_alloc_new (w.alloc x) y
  rwa [size_new] at this
theorem new3 (w : World) (x y z : Obj) : (((w.alloc x).alloc y).alloc z).heap[w.heap.size]? = some x ∧ (((w.alloc x).alloc y).alloc z).heap[w.heap.size + 1]? = some y ∧ (((w.alloc x).alloc y).alloc z).heap[w.heap.size + 1 + 1]? = some z ∧ (((w.alloc x).alloc y).alloc z).heap.size = w.heap.size + 1 + 1 + 1 := by
  refine ⟨hp_new (hp_new (hp_alloc_new w x)), hp_new (new2 w x y).2.1, ?_, by rw [size_new, size_new, size_new]⟩
  have := hp_alloc_new ((w.alloc x).alloc y) z
  rwa [size_new, size_new] at this
theorem below_new1 (w : World) (x : Obj) : Below w.heap.size w (w.alloc x) := (Below.refl _ _).alloc (Nat.le_refl _) _
theorem below_new2 (w : World) (x y : Obj) : Below w.heap.size w ((w.alloc x).alloc y) := (below_new1 w x).alloc (by rw [size_new]; omega) _
theorem below_new3 (w : World) (x y z : Obj) : Below w.heap.size w (((w.alloc x).alloc y).alloc z) := (below_new2 w x y).alloc (by rw [size_new, size_new]; omega) _

/-- For the limbs of a region's condition. -/
theorem below_step {w W w2 : World} (h : Below w.heap.size w W) (k : Below W.heap.size W w2) : Below w.heap.size w w2 := h.trans (k.mono h.size)
theorem cell_step {W w2 : World} {a : Addr} {v : Value} (h : W.cell? a = some v) (k : Below W.heap.size W w2) : w2.cell? a = some v := by
  have : a.block < W.heap.size := by
    unfold World.cell? at h
    cases hb : W.heap[a.block]? with
    | none => simp [hb] at h
    | some o => exact (Array.getElem?_eq_some_iff.1 hb).1
  exact (k.cell this).trans h
theorem hp_step {W w2 : World} {b : Nat} {o : Obj} (h : W.heap[b]? = some o) (k : Below W.heap.size W w2) : w2.heap[b]? = some o :=
  (k.block b (Array.getElem?_eq_some_iff.1 h).1).trans h

/-- Old blocks outside S are as they were. -/
structure Keep (S : Nat → Prop) (w w' : World) : Prop where
  os : w'.os = w.os
  tape : w'.tape = w.tape
  output : w'.output = w.output
  size : w.heap.size ≤ w'.heap.size
  block : ∀ k, k < w.heap.size → ¬ S k → w'.heap[k]? = w.heap[k]?
theorem Keep.refl (S : Nat → Prop) (w : World) : Keep S w w := ⟨rfl, rfl, rfl, Nat.le_refl _, fun _ _ _ => rfl⟩
theorem Keep.trans' {S S' : Nat → Prop} {a b c : World} (h : Keep S a b) (k : Keep S' b c) (hs : ∀ i, i < a.heap.size → S' i → S i) : Keep S a c :=
  ⟨k.os.trans h.os, k.tape.trans h.tape, k.output.trans h.output, Nat.le_trans h.size k.size, fun i hi hn => (k.block i (Nat.lt_of_lt_of_le hi h.size) (fun hh => hn (hs i hi hh))).trans (h.block i hi hn)⟩
theorem Keep.trans {S : Nat → Prop} {a b c : World} (h : Keep S a b) (k : Keep S b c) : Keep S a c := h.trans' k fun _ _ hh => hh
theorem Keep.of_below {S : Nat → Prop} {w w' : World} (h : Below w.heap.size w w') : Keep S w w' := ⟨h.os, h.tape, h.output, h.size, fun k hk _ => h.block k hk⟩
theorem Keep.below {S : Nat → Prop} {w w' : World} (h : Keep S w w') {n : Nat} (hn : n ≤ w.heap.size) (hs : ∀ k, k < n → ¬ S k) : Below n w w' := ⟨h.os, h.tape, h.output, h.size, fun k hk => h.block k (by omega) (hs k hk)⟩
theorem Keep.drew {S : Nat → Prop} {a w : World} (h : Keep S a w) : Keep S a w.drew := ⟨h.os, h.tape, h.output, h.size, h.block⟩
theorem Keep.drewN {S : Nat → Prop} {a w : World} (h : Keep S a w) (n : Nat) : Keep S a (w.drewN n) := ⟨h.os, h.tape, h.output, h.size, h.block⟩
theorem Keep.alloc {S : Nat → Prop} {a w : World} (h : Keep S a w) (o : Obj) : Keep S a (w.alloc o) := h.trans (.of_below ((Below.refl _ _).alloc (Nat.le_refl _) o))
theorem Keep.setCell {S : Nat → Prop} {a w : World} (h : Keep S a w) {p : Addr} (hp : a.heap.size ≤ p.block ∨ S p.block) (u : Value) : Keep S a (w.setCell p u) := by
  refine ⟨h.os, h.tape, h.output, by rw [size_set]; exact h.size, fun k hk hn => ?_⟩
  rw [hp_set_ne (by rintro rfl; rcases hp with hp | hp <;> first | omega | exact hn hp)]
  exact h.block k hk hn
theorem Keep.cell {S : Nat → Prop} {w w' : World} (h : Keep S w w') {p : Addr} (hp : p.block < w.heap.size) (hs : ¬ S p.block) : w'.cell? p = w.cell? p := World.cell?_of_block (w := w) (h.block p.block hp hs)
theorem Keep.frozen {S : Nat → Prop} {w w' : World} (h : Keep S w w') {p : Addr} (hp : p.block < w.heap.size) (hs : ¬ S p.block) : w'.frozen? p = w.frozen? p := World.frozen?_of_block (w := w) (h.block p.block hp hs)
theorem Keep.hp {S : Nat → Prop} {W w2 : World} {b : Nat} {o : Obj} (k : Keep S W w2) (h : W.heap[b]? = some o) (hs : ¬ S b) : w2.heap[b]? = some o :=
  (k.block b (Array.getElem?_eq_some_iff.1 h).1 hs).trans h
theorem kcell {S : Nat → Prop} {W w1 : World} (hb : Keep S W w1) : (∀ b o, b < W.heap.size → ¬ S b → w1.cell? ⟨b, o, none⟩ = W.cell? ⟨b, o, none⟩) ∧ (∀ b o, b < W.heap.size → ¬ S b → w1.frozen? ⟨b, o, none⟩ = W.frozen? ⟨b, o, none⟩) :=
  ⟨fun b o h hs => hb.cell (p := ⟨b, o, none⟩) h hs, fun b o h hs => hb.frozen (p := ⟨b, o, none⟩) h hs⟩

/-- Cells cs lie at the address a (whatever a, where there are none). -/
def Lie (w : World) (a : Option Addr) (cs : List Value) : Prop :=
  cs = [] ∨ ∃ b off, a = some ⟨b, off, none⟩ ∧ b < w.heap.size ∧ ∀ i, i < cs.length → w.cell? ⟨b, off + i, none⟩ = cs[i]?

theorem Lie.below {w w' : World} {a : Option Addr} {cs : List Value} (h : Lie w a cs) (hb : Below w.heap.size w w') : Lie w' a cs := by
  rcases h with h | ⟨b, off, h1, h2, h3⟩
  · exact .inl h
  · exact .inr ⟨b, off, h1, Nat.lt_of_lt_of_le h2 hb.size, fun i hi => (hb.cell (p := ⟨b, off + i, none⟩) h2).trans (h3 i hi)⟩

/-- append of a slice whatever (nil, empty, or cells that are known) onto a slice that is nil or the call's own. -/
theorem wpl_append {P : Program} {w : World} {ops : Array Oper} {rest : List Oper} {o : Oper} {a : Act} {Q : Exit → Act → World → Prop}
    (hg : o.guard = none) (s x : Operand) (t : TypeId) (ho : o.op = Op.call { callee := Callee.builtin Builtin.append, args := #[s, x], argTypes := #[t, t] })
    (base : Nat) (e : TypeId) (i : TypeInfo) (z : Value) (size bytes : Nat) (ht : P.underlying t = some (.slice e)) (hi : P.info? e = some i) (hz : i.zero = some z) (hsz : i.size = size) (hby : i.bytes = bytes)
    (hzs : z.cells.size = size) (hpos : 0 < size) (v : Value) (n : Nat) (xs : List Value) (hs : a.eval s = v) (hown : w.ownsRow base e size v n xs)
    (ao : Option Addr) (m c : Nat) (news : List Value) (hx : a.eval x = .slice ao m c) (hnil : ao = none → m = 0 ∧ c = 0) (hlen : news.length = m * size) (hlie : Lie w ao news) (hone : ∀ u ∈ news, u.oneCell' = true)
    (hmax : n + m ≤ maxLen) (hbytes : (n + m) * bytes ≤ 140737488355328) (hbase : base ≤ w.heap.size)
    (h : ∀ (v' : Value) (w' : World), w'.ownsRow base e size v' (n + m) (xs ++ news) → w.grownBy w' v.ownBlock → wpList P ops Q rest (a.put o.dst v') w') :
    wpList P ops Q (o :: rest) a w := by
  cases ao with
  | none =>
    obtain ⟨rfl, rfl⟩ := hnil rfl
    have hn : news = [] := List.length_eq_zero_iff.1 (by omega)
    subst hn
    exact wpList_append_own_none hg s x t ho base e i size ht hi v n xs hs hown hx (h v w (by simpa using hown) ⟨rfl, rfl, rfl, Nat.le_refl _, fun _ _ _ => rfl⟩)
  | some ad =>
    refine wpList_append_own w hg s x t ho base e i z size bytes ht hi hz hsz hby hzs hpos v n xs hs hown ad m c news hx hlen ?_ hone hmax hbytes hbase (fun v' w' h1 h2 _ => h v' w' h1 h2)
    intro j u hj
    rcases hlie with rfl | ⟨b, off, e1, hb, hc⟩
    · simp at hj
    · simp only [Option.some.injEq] at e1
      subst e1
      have hjl : j < news.length := (List.getElem?_eq_some_iff.1 hj).1
      have := hc j hjl
      rw [hj] at this
      unfold Addr.add
      split
      · next h0 => subst h0; simpa using this
      · exact this

/-- The slice that is owned: where its cells lie. -/
theorem owned_lie {w : World} {base : Nat} {e : TypeId} {size : Nat} {v : Value} {n : Nat} {xs : List Value} (h : w.ownsRow base e size v n xs) :
    ∃ ao cap, v = .slice ao n cap ∧ (ao = none → n = 0 ∧ cap = 0) ∧ Lie w ao xs ∧ (∀ b off, ao = some ⟨b, off, none⟩ → base ≤ b) := by
  obtain ⟨hlen, h⟩ := h
  rcases h with ⟨rfl, rfl⟩ | ⟨g, cap, cur, rfl, hg, hh, hn, hc, hsz, hx⟩
  · exact ⟨none, 0, rfl, fun _ => ⟨rfl, rfl⟩, .inl (List.length_eq_zero_iff.1 (by omega)), by simp⟩
  · refine ⟨_, cap, rfl, by simp, .inr ⟨g, 0, rfl, (Array.getElem?_eq_some_iff.1 hh).1, fun i hi => ?_⟩, fun b off h => ?_⟩
    · simp only [Nat.zero_add]
      have : w.cell? ⟨g, i, none⟩ = cur[i]? := by simp [World.cell?, hh]
      rw [this, ← hx]
      rw [hlen] at hi
      rw [List.getElem?_take, if_pos hi]
      simp
    · simp only [Option.some.injEq, Addr.mk.injEq] at h
      omega

section
variable {H : Type} {enc : TypeId × Value → H} {P : Program}

/-- All arguments read behind the call as they read before it, where nothing that was there has turned. -/
theorem trodAll_below (hl : laidOutB P = true) {W W' : World} (hb : Below W.heap.size W W') :
    ∀ (ts : List TypeId) (vs : List Value) (ds : List (DataW H)) (p : List MemPlace),
      (ts.all fun t => P.readableRec t && decide (t < P.types.size)) = true →
      DataW.TrodAll enc P W 0 (fun _ => true) true ts vs ds p → (∀ x ∈ p, x.block < W.heap.size) →
      DataW.TrodAll enc P W' 0 (fun b => decide (b < W.heap.size)) true ts vs ds p := by
  intro ts
  induction ts with
  | nil =>
    intro vs ds p _ h _
    obtain ⟨rfl, rfl, rfl⟩ := trodAll_nil h
    exact trodAll_mk0
  | cons t ts ih =>
    intro vs ds p hr h hlt
    obtain ⟨v, vs', d, ds', p', q, rfl, rfl, rfl, h1, h2⟩ := trodAll_cons h
    simp only [List.all_cons, Bool.and_eq_true, decide_eq_true_eq] at hr
    exact trodAll_cons_mk (Below.trod hl hr.1.1 hr.1.2 h1 hb fun x hx => hlt x (List.mem_append_left _ hx))
      (ih vs' ds' q hr.2 h2 fun x hx => hlt x (List.mem_append_right _ hx))

theorem trodAll_length {W : World} {base : Nat} {spare : Nat → Bool} {held : Bool} :
    ∀ (ts : List TypeId) (vs : List Value) (ds : List (DataW H)) (p : List MemPlace),
      DataW.TrodAll enc P W base spare held ts vs ds p → ds.length = ts.length := by
  intro ts
  induction ts with
  | nil =>
    intro vs ds p h
    obtain ⟨rfl, rfl, rfl⟩ := trodAll_nil h
    rfl
  | cons t ts ih =>
    intro vs ds p h
    obtain ⟨v, vs', d, ds', p', q, rfl, rfl, rfl, h1, h2⟩ := trodAll_cons h
    simp [ih _ _ _ h2]

/-- What a law's walk is asked for. -/
def LawWalk (enc : TypeId × Value → H) (P : Program) (f : FuncId) (fn : Func) (more : List (DataW H) → Prop) : Prop :=
  ∀ (W : World) (base : Nat) (args : Array Value) (ds : List (DataW H)) (p : List MemPlace),
    (∀ (j : Nat) t v, fn.params[j]? = some t → args[j]? = some v → Value.okWide P W .any base t v) →
    DataW.TrodAll enc P W 0 (fun _ => true) true fn.params.toList args.toList ds p →
    (DataW.weightsEach P fn.params.toList ds).all (· ≤ reachBytes) = true → more ds →
    Calls P f args W fun e w' => e = .returned (.bool true) ∧ Below W.heap.size W w'

theorem law_post {C : Checked} {f : FuncId} {fn : Func} {s : ChangeSpec} (hl : laidOutB C.prog = true)
    (hspec : ∀ (ds : List (DataW H)), ds.length = fn.params.size → s.fn H (ds ++ []) = { results := [.lit (.bool true)], args := ds })
    (tb : TypeId) (hres : fn.resultTypes = #[tb]) (htb : C.prog.underlying tb = some .bool) (hvars : s.vars = [])
    (hread : (fn.params.toList.all fun t => C.prog.readableRec t && decide (t < C.prog.types.size)) = true)
    {W : World} {base : Nat} {args : Array Value} {ds gs : List (DataW H)} {before : List MemPlace}
    (hval : ∀ (j : Nat) t v, fn.params[j]? = some t → args[j]? = some v → Value.okWide C.prog W .any base t v)
    (hW : DataW.Whole enc C.prog fn.params.toList s.vars false W args.toList ds gs before)
    (hsz : (DataW.weightsEach C.prog (fn.params.toList ++ s.plain.varTypes C.prog) (ds ++ gs)).all (· ≤ reachBytes) = true)
    {more : List (DataW H) → Prop} (hmore : more ds)
    (walk : LawWalk enc C.prog f fn more) :
    Calls C.prog f args W fun e W' => ∃ v, e = .returned v ∧ s.post enc C.prog fn false true false false W args v W' := by
  have hW' := hW
  have hlt := hW.lt
  obtain ⟨p, q, hA, hV, rfl, hfz, hnd⟩ := hW
  rw [hvars] at hV
  obtain ⟨rfl, rfl⟩ := trodVars_none hV
  have hty : s.plain.varTypes C.prog = [] := by simp [DataSpec.varTypes, ChangeSpec.plain, hvars]
  rw [hty] at hsz
  simp only [List.append_nil] at hsz hW' hlt
  refine (walk W base args ds p hval hA hsz hmore).mono fun e W' ⟨he, hb⟩ => ?_
  subst he
  have hlen := trodAll_length _ _ _ _ hA
  have hs := hspec ds (by simpa using hlen)
  refine ⟨_, rfl, ds, [], p, [], p, [], by simpa using hW', ?_, ?_, ?_, hb.frame _, fun h => by cases h⟩
  · rw [hs, hres]
    exact trodAll_mk1 (shut_bool htb _)
  · rw [hs]
    exact trodAll_below hl hb _ _ _ _ hread hA hlt
  · rw [hs, hvars]
    rfl

/-- A struct of two ints by value. -/
theorem open_pair {W : World} {base : Nat} {spare : Nat → Bool} {held : Bool} {r : Reach} {b0 : Nat} {t : TypeId} {f0 f1 : Field} {v : Value} {d : DataW H} {p : List MemPlace}
    (hs : P.underlying t = some (.struct #[f0, f1])) (hone : Go.Deep.oneCellFields P #[f0, f1] = true) (hC : P.cellsOf t = 2)
    (h0 : P.underlying f0.type = some (.int .i64)) (h1 : P.underlying f1.type = some (.int .i64))
    (hv : Value.okWide P W r b0 t v) (h : DataW.Trod enc P W base spare held t v d p) :
    ∃ a b : Int, v = .agg #[.int .i64 a, .int .i64 b] ∧ (Lit.int .i64 a).wf = true ∧ (Lit.int .i64 b).wf = true := by
  obtain ⟨c0, c1, y0, y1, m, rfl, rfl, rfl, hy0, hy1⟩ := open_agg2 hs hone hC hv h
  obtain ⟨a, e0, rfl, wa⟩ := DataW.trod_int h0 hy0
  obtain ⟨b, e1, rfl, wb⟩ := DataW.trod_int h1 hy1
  simp at e0 e1
  subst e0 e1
  exact ⟨a, b, rfl, wa, wb⟩

theorem cell_lt {w : World} {a : Addr} {v : Value} (h : w.cell? a = some v) : a.block < w.heap.size := by
  unfold World.cell? at h
  cases hb : w.heap[a.block]? with
  | none => simp [hb] at h
  | some o => exact (Array.getElem?_eq_some_iff.1 hb).1

/-- A slice of integers that came in. -/
theorem open_slice_int {W : World} {r : Reach} {b0 : Nat} {t e : TypeId} {k : IntKind} {v : Value} {d : DataW H} {p : List MemPlace}
    (hs : P.underlying t = some (.slice e)) (he : P.underlying e = some (.int k)) (hC : P.cellsOf e = 1)
    (hv : Value.okWide P W r b0 t v) (h : DataW.Trod enc P W 0 (fun _ => true) true t v d p) :
    ∃ (a : Option Addr) (l : List Int) (cap : Nat), v = .slice a l.length cap ∧ l.length ≤ cap ∧ cap ≤ maxLen ∧ (a = none → l.length = 0 ∧ cap = 0) ∧ Lie W a (l.map (Value.int k)) ∧ (∀ n ∈ l, (Lit.int k n).wf = true) ∧
      (d = .nil ∧ l = [] ∨ ∃ sp, d = .slice (l.map fun n => .lit (.int k n)) sp ∧ l.length + sp.length = cap) := by
  obtain ⟨a0, len, cap, rfl⟩ := okWide_slice hs hv
  obtain ⟨fuel, hf⟩ := h
  rcases open_ints hs he hC hf with ⟨hcs, hx⟩ | ⟨a, len', cap', zs, hcs, _, hl, hm, hz, hx, hcell, hwz⟩
  · simp [Value.cells] at hcs
    obtain ⟨rfl, rfl, rfl⟩ := hcs
    simp only [Prod.mk.injEq] at hx
    exact ⟨none, [], 0, rfl, Nat.le_refl _, by simp [maxLen], by simp, .inl rfl, by simp, .inl ⟨hx.1, rfl⟩⟩
  · simp [Value.cells] at hcs
    obtain ⟨rfl, rfl, rfl⟩ := hcs
    simp only [if_true] at hz
    simp only [Prod.mk.injEq] at hx
    have hlen : (zs.take len).length = len := by simp; omega
    refine ⟨some a, zs.take len, cap, by rw [hlen], by omega, hm, by simp, ?_, fun n hn => hwz n (List.mem_of_mem_take hn), .inr ⟨_, hx.1, ?_⟩⟩
    · by_cases h0 : len = 0
      · left; simp [h0]
      · right
        obtain ⟨b, off, rfl, hc⟩ := ints_at hcell (by omega)
        refine ⟨b, off, rfl, cell_lt (hc 0 (by omega)), fun i hi => ?_⟩
        simp only [List.length_map, hlen] at hi
        rw [hc i (by omega)]
        simp [List.getElem?_take, hi]
        rw [List.getElem?_eq_getElem (by omega)]
        simp
    · simp [lits]; omega

theorem list_choose {α : Type} {p : Nat → α → Prop} : ∀ n : Nat, (∀ i, i < n → ∃ x, p i x) → ∃ l : List α, l.length = n ∧ ∀ i (h : i < l.length), p i l[i]
  | 0, _ => ⟨[], rfl, fun i h => absurd h (by simp)⟩
  | n + 1, h => by
    obtain ⟨l, hl, hp⟩ := list_choose n (fun i hi => h i (by omega))
    obtain ⟨x, hx⟩ := h n (by omega)
    refine ⟨l ++ [x], by simp [hl], fun i hi => ?_⟩
    by_cases e : i < l.length
    · rw [List.getElem_append_left e]; exact hp i e
    · simp only [List.length_append, List.length_cons, List.length_nil] at hi
      obtain rfl : i = l.length := by omega
      rw [List.getElem_append_right (by omega)]
      simpa [hl] using hx

/-- The rows of a slice lie at an address: element i's cells from i * size on. -/
def RowsAt (w : World) (a : Option Addr) (size : Nat) (L : List (List Value)) : Prop :=
  L = [] ∨ ∃ b off, a = some ⟨b, off, none⟩ ∧ b < w.heap.size ∧ ∀ i (hi : i < L.length) j, j < size → w.cell? ⟨b, off + i * size + j, none⟩ = L[i][j]?

theorem RowsAt.below {w w' : World} {a : Option Addr} {size : Nat} {L : List (List Value)} (h : RowsAt w a size L) (hb : Below w.heap.size w w') : RowsAt w' a size L := by
  rcases h with h | ⟨b, off, h1, h2, h3⟩
  · exact .inl h
  · exact .inr ⟨b, off, h1, Nat.lt_of_lt_of_le h2 hb.size, fun i hi j hj => (hb.cell (p := ⟨b, _, none⟩) h2).trans (h3 i hi j hj)⟩

/-- A slice of whatever elements that came in: 'ev' says which cells an element is, 'good' what is known of it. -/
theorem open_slice_gen {α : Type} {W : World} {r : Reach} {b0 : Nat} {t e : TypeId} {v : Value} {d : DataW H} {p : List MemPlace} (size : Nat) (ev : α → List Value) (good : α → DataW H → Prop)
    (ht : P.underlying t = some (.slice e)) (hC : P.cellsOf e = size) (hpos : 0 < size)
    (helem : ∀ (n : Nat) (cs : List Value) (y : DataW H × List MemPlace), cs.length = size → DataW.trod enc P W 0 (fun _ => true) true n e cs = some y → ∃ x, cs = ev x ∧ good x y.1)
    (hv : Value.okWide P W r b0 t v) (h : DataW.Trod enc P W 0 (fun _ => true) true t v d p) :
    ∃ (a : Option Addr) (l : List α) (cap : Nat) (ds sp : List (DataW H)), v = .slice a l.length cap ∧ l.length ≤ cap ∧ cap ≤ maxLen ∧ (a = none → l.length = 0 ∧ cap = 0) ∧ RowsAt W a size (l.map ev) ∧
      (d = .nil ∧ l = [] ∧ ds = [] ∧ sp = [] ∨ d = .slice ds sp) ∧ ds.length = l.length ∧ l.length + sp.length = cap ∧ ∀ i (hi : i < l.length) (hj : i < ds.length), good l[i] ds[i] := by
  obtain ⟨a0, len0, cap0, rfl⟩ := okWide_slice ht hv
  obtain ⟨fuel, hf⟩ := h
  rcases Go.Deep.open_slice ht hf with ⟨hcs, hx⟩ | ⟨a, len, cap, m, n, D, Pl, hcs, _, hl, hm, hmm, hx, hi⟩
  · simp [Value.cells] at hcs
    obtain ⟨rfl, rfl, rfl⟩ := hcs
    simp only [Prod.mk.injEq] at hx
    exact ⟨none, [], 0, [], [], rfl, Nat.le_refl _, by simp [maxLen], by simp, .inl rfl, .inl ⟨hx.1, rfl, rfl, rfl⟩, rfl, rfl, fun i hi => absurd hi (by simp)⟩
  · simp [Value.cells] at hcs
    obtain ⟨rfl, rfl, rfl⟩ := hcs
    simp only [if_true] at hmm
    simp only [Prod.mk.injEq] at hx
    subst hmm
    have key : ∀ i, i < len0 → ∃ x : α, good x (D i) ∧ W.cells? 0 (a.add (i * P.cellsOf e)) (P.cellsOf e) = some (ev x) := by
      intro i hil
      obtain ⟨cs', hc, htr⟩ := hi i (by omega)
      obtain ⟨_, hcl, _⟩ := World.cells?_some hc
      obtain ⟨x, rfl, hg⟩ := helem n cs' _ (hcl.trans hC) htr
      exact ⟨x, hg, hc⟩
    obtain ⟨l, hll, hlp⟩ := list_choose len0 key
    refine ⟨some a, l, m, (List.range len0).map D, (List.range (m - len0)).map (fun j => D (len0 + j)), by rw [hll], by omega, hm, by simp, ?_, .inr hx.1, by simp [hll], by simp; omega, fun i h1 h2 => ?_⟩
    · by_cases h0 : l = []
      · left; simp [h0]
      · right
        have hlen : 0 < l.length := List.length_pos_iff.2 h0
        have hspot : a.spot = none ∧ a.block < W.heap.size := by
          have h1 := (hlp 0 hlen).2
          obtain ⟨_, hcl, hat⟩ := World.cells?_some h1
          have h2 := hat 0 (by omega)
          rw [Nat.zero_mul] at h2
          have e0 : a.add 0 = a := by simp [Addr.add]
          rw [e0, e0] at h2
          have h3 : (ev l[0])[0]? = some ((ev l[0])[0]'(by omega)) := List.getElem?_eq_getElem (by omega)
          rw [h3] at h2
          refine ⟨?_, cell_lt h2⟩
          unfold World.cell? at h2
          cases hb : W.heap[a.block]? with
          | none => simp [hb] at h2
          | some o =>
            cases o <;> simp [hb] at h2
            cases hs : a.spot with
            | none => rfl
            | some x => simp [hs] at h2
        obtain ⟨b, off, spot⟩ := a
        obtain ⟨rfl, hbl⟩ : spot = none ∧ b < W.heap.size := hspot
        refine ⟨b, off, rfl, hbl, fun i hi' j hj => ?_⟩
        simp only [List.length_map] at hi'
        have h1 := (hlp i hi').2
        obtain ⟨_, hcl, hat⟩ := World.cells?_some h1
        have h2 := hat j (by omega)
        have ea : ((⟨b, off, none⟩ : Addr).add (i * P.cellsOf e)).add j = ⟨b, off + i * size + j, none⟩ := by
          rw [hC]
          unfold Addr.add
          by_cases z1 : i * size = 0 <;> by_cases z2 : j = 0 <;> simp [z1, z2]
        rw [ea] at h2
        rw [h2]
        simp
    · have := (hlp i h1).1
      simpa using this

/-- A struct of one-cell fields: its cells, each with its field's reading. -/
theorem struct_cells {w : World} {base : Nat} {spare : Nat → Bool} {held : Bool} {e : TypeId} {fs : Array Field} {fuel : Nat} {cs : List Value} {x : DataW H × List MemPlace}
    (he : P.underlying e = some (.struct fs)) (hone : Go.Deep.oneCellFields P fs = true) (hC : P.cellsOf e = fs.size) (h : DataW.trod enc P w base spare held fuel e cs = some x) :
    ∃ (ys : List (DataW H × List MemPlace)) (n : Nat), x.1 = .agg (ys.map (·.1)) ∧ ys.length = fs.size ∧ cs.length = fs.size ∧
      ∀ (j : Nat) (f : Field), fs[j]? = some f → ∃ (v : Value) (y : DataW H × List MemPlace), cs[j]? = some v ∧ ys[j]? = some y ∧ DataW.trod enc P w base spare held n f.type [v] = some y := by
  obtain ⟨ys, n', hn', hy, hlen, hyl, hf⟩ := DataW.trod_struct he h
  subst hy
  refine ⟨ys, n', rfl, hyl, hlen.trans hC, fun j f hj => ?_⟩
  obtain ⟨ho, hk⟩ := Go.Deep.hone_of hone j f hj
  have hjl : j < fs.size := (Array.getElem?_eq_some_iff.1 hj).1
  have h1 := hf j f hj
  rw [ho, hk] at h1
  have hone' : (cs.drop j).take 1 = [cs[j]'(by omega)] := by
    rw [List.drop_eq_getElem_cons (by omega)]
    rfl
  rw [hone'] at h1
  have hys : ys[j]? = some (ys[j]'(by omega)) := List.getElem?_eq_getElem (by omega)
  exact ⟨_, _, List.getElem?_eq_getElem (by omega), hys, h1.trans hys⟩

theorem list2 {α : Type} {l : List α} (h : l.length = 2) : ∃ a b, l = [a, b] := by
  match l, h with | [a, b], _ => exact ⟨a, b, rfl⟩
theorem list3 {α : Type} {l : List α} (h : l.length = 3) : ∃ a b c, l = [a, b, c] := by
  match l, h with | [a, b, c], _ => exact ⟨a, b, c, rfl⟩
theorem list4 {α : Type} {l : List α} (h : l.length = 4) : ∃ a b c d, l = [a, b, c, d] := by
  match l, h with | [a, b, c, d], _ => exact ⟨a, b, c, d, rfl⟩
theorem list5 {α : Type} {l : List α} (h : l.length = 5) : ∃ a b c d e, l = [a, b, c, d, e] := by
  match l, h with | [a, b, c, d, e], _ => exact ⟨a, b, c, d, e, rfl⟩

/-- An element that is a struct of two ints. -/
theorem elem_pair {W : World} {e : TypeId} {f0 f1 : Field} (he : P.underlying e = some (.struct #[f0, f1])) (hone : Go.Deep.oneCellFields P #[f0, f1] = true) (hC : P.cellsOf e = 2)
    (h0 : P.underlying f0.type = some (.int .i64)) (h1 : P.underlying f1.type = some (.int .i64)) (n : Nat) (cs : List Value) (y : DataW H × List MemPlace)
    (h : DataW.trod enc P W 0 (fun _ => true) true n e cs = some y) : ∃ x : Int × Int, cs = [.int .i64 x.1, .int .i64 x.2] ∧ True := by
  obtain ⟨ys, n', _, hyl, hcl, hf⟩ := struct_cells he hone hC h
  obtain ⟨c0, c1, rfl⟩ := list2 hcl
  obtain ⟨v0, y0, e0, _, t0⟩ := hf 0 f0 rfl
  obtain ⟨v1, y1, e1, _, t1⟩ := hf 1 f1 rfl
  obtain ⟨a, ea, _, _⟩ := DataW.trod_int h0 t0
  obtain ⟨b, eb, _, _⟩ := DataW.trod_int h1 t1
  simp at e0 e1 ea eb
  subst e0 e1 ea eb
  exact ⟨(a, b), rfl, trivial⟩
end
end Go.Proofs.YtcaakiaenfkeaaaGreat.kit
/-
  More lemmas of this seat's own: append as a step, with where the new slice lies; what a call may change of a net.
-/
namespace Go.Proofs.YtcaakiaenfkeaaaGreat.kit
open Go.ChangeShapes Go.WideShapes Go.ChangeAt Go.RowKit Go.Joins
set_option linter.unusedVariables false
set_option linter.unusedSimpArgs false

/-- Where the slice lies that an append tells: where the old one lay, or in memory of its own. -/
theorem run_own_at {P : Program} {w w' : World} {v' : Value} (base : Nat) (t ty e : TypeId) (i : TypeInfo) (z : Value) (ht : P.underlying t = some (.slice e)) (hi : P.info? e = some i) (hz : i.zero = some z)
    (v : Value) (n : Nat) (xs : List Value) (hown : w.ownsRow base e i.size v n xs)
    (a : Addr) (m c : Nat) (news : List Value) (hl : news.length = m * i.size) (hnews : ∀ j u, news[j]? = some u → w.cell? (a.add j) = some u) (h1 : ∀ u ∈ news, u.oneCell' = true)
    (h63 : n + m ≤ maxLen) (hbytes : (n + m) * i.bytes ≤ 140737488355328)
    (hr : (Builtin.append_ #[t, t] ty #[v, .slice (some a) m c]).run P w = .ok v' w') : ∀ k, v'.ownBlock = some k → v.ownBlock = some k ∨ w.heap.size ≤ k := by
  have hsmall : n + m ≤ 9223372036854775807 := by simp only [maxLen] at h63; omega
  rcases hown.2 with ⟨rfl, rfl⟩ | ⟨g, cap, cur, rfl, hbg, hg, hnc, hcm, hcs, htake⟩
  · by_cases hm : m = 0
    · subst hm
      have hr2 : (Builtin.append_ #[t, t] ty #[.slice none 0 0, .slice (some a) 0 c]).run P w = .ok (.slice none 0 0) w := by
        simp [Builtin.append_, run_underlying ht, sizeOf, typeInfo, hi, Builtin.lenOf, Builtin.firstCells, loadCells, loadCellsFrom]
      have := hr2.symm.trans hr
      simp only [Result.ok.injEq] at this
      rw [← this.1]
      simp [Value.ownBlock]
    · have hr2 := run_append_nil (P := P) w t ty e i z ht hi hz a m c news hl hnews (by omega) (by omega) (by have hb := hbytes; simp only [Nat.zero_add] at hb; omega)
      have := hr2.symm.trans hr
      simp only [Result.ok.injEq] at this
      rw [← this.1]
      intro k hk
      simp only [Value.ownBlock, Option.some.injEq] at hk
      exact .inr (by omega)
  · by_cases hroom : n + m ≤ cap
    · have hfit : n * i.size + news.length ≤ cur.size := by rw [hl, hcs, ← Nat.add_mul]; exact Nat.mul_le_mul_right _ hroom
      have hr2 := run_append_room (P := P) w t ty e i ht hi g n cap cur hg a m c news hl hnews h1 hroom hfit
      have := hr2.symm.trans hr
      simp only [Result.ok.injEq] at this
      rw [← this.1]
      intro k hk
      exact .inl hk
    · have holds : ∀ j u, xs[j]? = some u → w.cell? ((⟨g, 0, none⟩ : Addr).add j) = some u := hown.cells (g := g) rfl
      have hr2 := run_append_grow (P := P) w t ty e i z ht hi hz ⟨g, 0, none⟩ n cap xs hown.1 holds a m c news hl hnews (by omega) (by omega) (growslice_fits (by omega) hbytes)
      have := hr2.symm.trans hr
      simp only [Result.ok.injEq] at this
      rw [← this.1]
      intro k hk
      simp only [Value.ownBlock, Option.some.injEq] at hk
      exact .inr (by omega)

theorem lie_adds {w : World} {ad : Addr} {news : List Value} (hlie : Lie w (some ad) news) : ∀ j u, news[j]? = some u → w.cell? (ad.add j) = some u := by
  intro j u hj
  rcases hlie with rfl | ⟨b, off, e1, hb, hc⟩
  · simp at hj
  · simp only [Option.some.injEq] at e1
    subst e1
    have hjl : j < news.length := (List.getElem?_eq_some_iff.1 hj).1
    have := hc j hjl
    rw [hj] at this
    unfold Addr.add
    split
    · next h0 => subst h0; simpa using this
    · exact this

/-- An append to a row of the call's own, as one step, with where the new slice lies. -/
theorem step_append_at {P : Program} {w : World} {ops : Array Oper} {o : Oper} {a : Act} {K : Act → World → Prop} {Q : Exit → Act → World → Prop} {E : Prop}
    (hg : o.guard = none) (s x : Operand) (t : TypeId) (ho : o.op = Op.call { callee := Callee.builtin Builtin.append, args := #[s, x], argTypes := #[t, t] })
    (base : Nat) (e : TypeId) (i : TypeInfo) (z : Value) (size bytes : Nat) (ht : P.underlying t = some (.slice e)) (hi : P.info? e = some i) (hz : i.zero = some z) (hsz : i.size = size) (hby : i.bytes = bytes)
    (hzs : z.cells.size = size) (hpos : 0 < size) (v : Value) (n : Nat) (xs : List Value) (hs : a.eval s = v) (hown : w.ownsRow base e size v n xs)
    (ad : Addr) (m c : Nat) (news : List Value) (hx : a.eval x = .slice (some ad) m c) (hlen : news.length = m * size) (hlie : Lie w (some ad) news) (hone : ∀ u ∈ news, u.oneCell' = true)
    (hmax : n + m ≤ maxLen) (hbytes : (n + m) * bytes ≤ 140737488355328) (hbase : base ≤ w.heap.size)
    (h : ∀ (v' : Value) (w' : World), w'.ownsRow base e size v' (n + m) (xs ++ news) → w.grownBy w' v.ownBlock → (∀ k, v'.ownBlock = some k → v.ownBlock = some k ∨ w.heap.size ≤ k) → K (a.put o.dst v') w') :
    if Region.wanted o (yielded ops a.tmps) = true then Oper.wp P o a w K Q else E := by
  have hw : Region.wanted o (yielded ops a.tmps) = true := by simp [Region.wanted, hg]
  rw [if_pos hw]
  obtain ⟨v', w', hr, h1, h2, _⟩ := run_append_own (P := P) w base t o.type e i z size bytes ht hi hz hsz hby hzs hpos v n xs hown ad m c news hlen (lie_adds hlie) hone hmax hbytes hbase
  have h3 := run_own_at base t o.type e i z ht hi hz v n xs (by rw [hsz]; exact hown) ad m c news (by rw [hsz]; exact hlen) (lie_adds hlie) hone hmax (by rw [hby]; exact hbytes) hr
  unfold Oper.wp execOp
  simp only [ho, resolve, invoke, builtin, Sem.run_bind, Sem.run_pure, Result.andThen_ok, List.map_toArray, List.map_cons, List.map_nil, hs, hx, hr]
  exact h v' w' h1 h2 h3

/-- The blocks that a struct's slice (its cell 1) and map or second slice (its cell 2) lie in, and its own. -/
def Foot (w : World) (b k : Nat) : Prop :=
  k = b ∨ (∃ n c, w.cell? ⟨b, 1, none⟩ = some (.slice (some ⟨k, 0, none⟩) n c)) ∨ w.cell? ⟨b, 2, none⟩ = some (.map (some k)) ∨ (∃ n c, w.cell? ⟨b, 2, none⟩ = some (.slice (some ⟨k, 0, none⟩) n c))
/-- What a call may have changed of what was there, and where the struct's parts lie behind it. -/
structure Moved (w w' : World) (b : Nat) : Prop where
  kept : ∀ k, k < w.heap.size → ¬ Foot w b k → w'.heap[k]? = w.heap[k]?
  foot : ∀ k, Foot w' b k → Foot w b k ∨ w.heap.size ≤ k
  size : w.heap.size ≤ w'.heap.size
theorem foot_same {w w' : World} {b : Nat} (h : w'.heap[b]? = w.heap[b]?) (k : Nat) : Foot w' b k ↔ Foot w b k := by
  have e : ∀ o, w'.cell? ⟨b, o, none⟩ = w.cell? ⟨b, o, none⟩ := fun o => by simp [World.cell?, h]
  simp only [Foot, e]
theorem Moved.of_below {w w' : World} {b : Nat} (h : Below w.heap.size w w') (hb : b < w.heap.size) : Moved w w' b :=
  ⟨fun k hk _ => h.block k hk, fun k hk => .inl ((foot_same (h.block b hb) k).1 hk), h.size⟩
theorem Moved.refl (w : World) (b : Nat) : Moved w w b := ⟨fun _ _ _ => rfl, fun _ h => .inl h, Nat.le_refl _⟩
theorem Moved.trans {w w1 w2 : World} {b : Nat} (h1 : Moved w w1 b) (h2 : Moved w1 w2 b) : Moved w w2 b := by
  refine ⟨fun k hk hn => ?_, fun k hk => ?_, Nat.le_trans h1.size h2.size⟩
  · refine (h2.kept k (Nat.lt_of_lt_of_le hk h1.size) (fun hf => ?_)).trans (h1.kept k hk hn)
    rcases h1.foot k hf with h | h
    · exact hn h
    · omega
  · rcases h2.foot k hk with h | h
    · exact h1.foot k h
    · exact .inr (Nat.le_trans h1.size h)
theorem foot_map {w : World} {b n c mb : Nat} {u : Value} {a : Option Addr} {T : TypeId} (h : w.heap[b]? = some (.cells #[u, .slice a n c, .map (some mb)] T (0, 0))) (k : Nat) : Foot w b k ↔ k = b ∨ a = some ⟨k, 0, none⟩ ∨ k = mb := by
  obtain ⟨_, c1, c2, _⟩ := blk3 h
  simp only [Foot, c1, c2, Option.some.injEq, Value.slice.injEq, Value.map.injEq]
  constructor
  · rintro (h | ⟨n, c, h, _⟩ | h | ⟨_, _, h⟩)
    · exact .inl h
    · exact .inr (.inl h)
    · exact .inr (.inr h.symm)
    · simp at h
  · rintro (h | h | h)
    · exact .inl h
    · exact .inr (.inl ⟨_, _, h, rfl, rfl⟩)
    · exact .inr (.inr (.inl h.symm))
theorem foot_two {w : World} {b n c n2 c2 : Nat} {u : Value} {a a2 : Option Addr} {T : TypeId} (h : w.heap[b]? = some (.cells #[u, .slice a n c, .slice a2 n2 c2] T (0, 0))) (k : Nat) : Foot w b k ↔ k = b ∨ a = some ⟨k, 0, none⟩ ∨ a2 = some ⟨k, 0, none⟩ := by
  obtain ⟨_, d1, d2, _⟩ := blk3 h
  simp only [Foot, d1, d2, Option.some.injEq, Value.slice.injEq]
  constructor
  · rintro (h | ⟨n, c, h, _⟩ | h | ⟨_, _, h, _⟩)
    · exact .inl h
    · exact .inr (.inl h)
    · simp at h
    · exact .inr (.inr h)
  · rintro (h | h | h)
    · exact .inl h
    · exact .inr (.inl ⟨_, _, h, rfl, rfl⟩)
    · exact .inr (.inr (.inr ⟨_, _, h, rfl, rfl⟩))
end Go.Proofs.YtcaakiaenfkeaaaGreat.kit
/-
  More lemmas of this seat's own: append in a region that does not draw, with where the new slice lies.
-/
namespace Go.Proofs.YtcaakiaenfkeaaaGreat.kit
open Go.ChangeShapes Go.WideShapes Go.ChangeAt Go.RowKit Go.Joins
set_option linter.unusedVariables false
set_option linter.unusedSimpArgs false

/-- The same in a region that does not draw. -/
theorem wpl_append_at {P : Program} {w : World} {ops : Array Oper} {rest : List Oper} {o : Oper} {a : Act} {Q : Exit → Act → World → Prop}
    (hg : o.guard = none) (s x : Operand) (t : TypeId) (ho : o.op = Op.call { callee := Callee.builtin Builtin.append, args := #[s, x], argTypes := #[t, t] })
    (base : Nat) (e : TypeId) (i : TypeInfo) (z : Value) (size bytes : Nat) (ht : P.underlying t = some (.slice e)) (hi : P.info? e = some i) (hz : i.zero = some z) (hsz : i.size = size) (hby : i.bytes = bytes)
    (hzs : z.cells.size = size) (hpos : 0 < size) (v : Value) (n : Nat) (xs : List Value) (hs : a.eval s = v) (hown : w.ownsRow base e size v n xs)
    (ad : Addr) (m c : Nat) (news : List Value) (hx : a.eval x = .slice (some ad) m c) (hlen : news.length = m * size) (hlie : Lie w (some ad) news) (hone : ∀ u ∈ news, u.oneCell' = true)
    (hmax : n + m ≤ maxLen) (hbytes : (n + m) * bytes ≤ 140737488355328) (hbase : base ≤ w.heap.size)
    (h : ∀ (v' : Value) (w' : World), w'.ownsRow base e size v' (n + m) (xs ++ news) → w.grownBy w' v.ownBlock → (∀ k, v'.ownBlock = some k → v.ownBlock = some k ∨ w.heap.size ≤ k) → wpList P ops Q rest (a.put o.dst v') w') :
    wpList P ops Q (o :: rest) a w := by
  refine wpList_plain hg fun K hK => ?_
  obtain ⟨v', w', hr, h1, h2, _⟩ := run_append_own (P := P) w base t o.type e i z size bytes ht hi hz hsz hby hzs hpos v n xs hown ad m c news hlen (lie_adds hlie) hone hmax hbytes hbase
  have h3 := run_own_at base t o.type e i z ht hi hz v n xs (by rw [hsz]; exact hown) ad m c news (by rw [hsz]; exact hlen) (lie_adds hlie) hone hmax (by rw [hby]; exact hbytes) hr
  unfold Oper.wp execOp
  simp only [ho, resolve, invoke, builtin, Sem.run_bind, Sem.run_pure, Result.andThen_ok, List.map_toArray, List.map_cons, List.map_nil, hs, hx, hr]
  exact hK _ _ (h v' w' h1 h2 h3)
end Go.Proofs.YtcaakiaenfkeaaaGreat.kit
/-
  Lemmas about no program: rows of memory of its own.
-/
namespace Go.Proofs.YtcaakiaenfkeaaaGreat.own
open Go.RowKit
open Go.Proofs.YtcaakiaenfkeaaaGreat.kit
set_option linter.unusedVariables false
set_option linter.unusedSimpArgs false
set_option maxHeartbeats 1000000

theorem own_below {w w' : World} {base : Nat} {e : TypeId} {size : Nat} {v : Value} {n : Nat} {xs : List Value} (h : w.ownsRow base e size v n xs) (hb : Below w.heap.size w w') : w'.ownsRow base e size v n xs := by
  obtain ⟨h1, h2⟩ := h
  refine ⟨h1, ?_⟩
  rcases h2 with h2 | ⟨g, cap, cur, hv, hg, hh, r⟩
  · exact .inl h2
  · exact .inr ⟨g, cap, cur, hv, hg, hp_step hh hb, r⟩
theorem own_mono {w : World} {base base' : Nat} {e : TypeId} {size : Nat} {v : Value} {n : Nat} {xs : List Value} (h : w.ownsRow base e size v n xs) (hb : base' ≤ base) : w.ownsRow base' e size v n xs := by
  obtain ⟨h1, h2⟩ := h
  refine ⟨h1, ?_⟩
  rcases h2 with h2 | ⟨g, cap, cur, hv, hg, hh, r⟩
  · exact .inl h2
  · exact .inr ⟨g, cap, cur, hv, by omega, hh, r⟩
theorem own_kept {w w' : World} {base : Nat} {e : TypeId} {size n : Nat} {a : Option Addr} {cap : Nat} {xs : List Value} (h : w.ownsRow base e size (.slice a n cap) n xs) (hk : ∀ g, a = some ⟨g, 0, none⟩ → w'.heap[g]? = w.heap[g]?) : w'.ownsRow base e size (.slice a n cap) n xs := by
  obtain ⟨h1, h2⟩ := h
  refine ⟨h1, ?_⟩
  rcases h2 with h2 | ⟨g', cap', cur, hv, hg, hh, r⟩
  · exact .inl h2
  · have e1 : a = some ⟨g', 0, none⟩ := by simp only [Value.slice.injEq] at hv; exact hv.1
    exact .inr ⟨g', cap', cur, hv, hg, (hk g' e1).trans hh, r⟩
theorem own_from {w : World} {base : Nat} {e : TypeId} {size n c : Nat} {a : Option Addr} {xs : List Value} (h : w.ownsRow base e size (.slice a n c) n xs) : ∀ g, a = some ⟨g, 0, none⟩ → base ≤ g ∧ g < w.heap.size := by
  rintro g rfl
  rcases h.2 with ⟨e', hz⟩ | ⟨g', cap, cur, e', hg, hh, _⟩
  · simp at e'
  · simp only [Value.slice.injEq, Option.some.injEq, Addr.mk.injEq, and_true] at e'
    obtain ⟨rfl, _⟩ := e'
    exact ⟨hg, (blk hh).2.2⟩
theorem own_ne {w : World} {base : Nat} {e T : TypeId} {size n c b : Nat} {a : Option Addr} {xs : List Value} {cs : Array Value} (h : w.ownsRow base e size (.slice a n c) n xs) (hb : w.heap[b]? = some (.cells cs T (0, 0))) (ht : T ≠ e) : ∀ g, a = some ⟨g, 0, none⟩ → g ≠ b := by
  rintro g hg rfl
  rcases h.2 with ⟨hz0, _⟩ | ⟨g', cap, cur, e', hgb, hh, _⟩
  · simp [hg] at hz0
  · simp only [Value.slice.injEq, hg, Option.some.injEq, Addr.mk.injEq, and_true] at e'
    obtain ⟨rfl, _⟩ := e'
    rw [hb] at hh
    simp only [Option.some.injEq, Obj.cells.injEq] at hh
    exact ht hh.2.1
theorem own_ptr {w : World} {base : Nat} {e : TypeId} {size n c : Nat} {a : Option Addr} {xs : List Value} (h : w.ownsRow base e size (.slice a n c) n xs) (hn : 0 < n) : ∃ g, a = some ⟨g, 0, none⟩ := by
  rcases h.2 with ⟨hz, h0⟩ | ⟨g', c', cur, e', _⟩
  · omega
  · simp only [Value.slice.injEq] at e'
    exact ⟨g', e'.1⟩
theorem own_heap {w : World} {base : Nat} {e : TypeId} {size n c : Nat} {a : Option Addr} {xs : List Value} (h : w.ownsRow base e size (.slice a n c) n xs) : ∀ g, a = some ⟨g, 0, none⟩ → ∃ cur, w.heap[g]? = some (.cells cur e (0, 0)) := by
  rintro g rfl
  rcases h.2 with ⟨hz0, _⟩ | ⟨g', cap, cur, e', hgb, hh, _⟩
  · simp at hz0
  · simp only [Value.slice.injEq, Option.some.injEq, Addr.mk.injEq, and_true] at e'
    obtain ⟨rfl, _⟩ := e'
    exact ⟨cur, hh⟩
theorem own_block {w : World} {base : Nat} {e : TypeId} {size n c : Nat} {a : Option Addr} {xs : List Value} (h : w.ownsRow base e size (.slice a n c) n xs) : ∀ j, (Value.slice a n c).ownBlock = some j → a = some ⟨j, 0, none⟩ := by
  intro j hj
  rcases h.2 with ⟨hz0, _⟩ | ⟨g', cap, cur, e', hgb, hh, _⟩
  · rw [hz0] at hj; simp [Value.ownBlock] at hj
  · rw [e'] at hj
    simp [Value.ownBlock] at hj
    subst hj
    simp only [Value.slice.injEq] at e'
    exact e'.1
theorem own_shape {w : World} {base : Nat} {e : TypeId} {size : Nat} {v : Value} {n : Nat} {xs : List Value} (h : w.ownsRow base e size v n xs) : ∃ a c, v = .slice a n c := by
  rcases h.2 with ⟨rfl, rfl⟩ | ⟨g, cap, cur, rfl, hg, hh, hc, hm, hsz, hx⟩
  · exact ⟨none, 0, rfl⟩
  · exact ⟨_, cap, rfl⟩
end Go.Proofs.YtcaakiaenfkeaaaGreat.own
/-
  Who owns which block (no program): tags, what a call may have changed, rows by tag.
-/
namespace Go.Proofs.YtcaakiaenfkeaaaGreat.ownr
open Go.ChangeShapes Go.WideShapes Go.ChangeAt Go.RowKit
open Go.Proofs.YtcaakiaenfkeaaaGreat.kit Go.Proofs.YtcaakiaenfkeaaaGreat.own
set_option linter.unusedVariables false
set_option linter.unusedSimpArgs false

/-- Whose a block is, and for what: (0, 0): all may read it, nobody writes it. -/
abbrev Tag := Nat × Nat
abbrev Owners := Nat → Tag
def ro : Tag := (0, 0)
def Owners.put (O : Owners) (k : Nat) (t : Tag) : Owners := fun j => if j = k then t else O j
theorem put_self (O : Owners) (k : Nat) (t : Tag) : O.put k t k = t := if_pos rfl
theorem put_ne (O : Owners) {j k : Nat} (t : Tag) (h : j ≠ k) : O.put k t j = O j := if_neg h
/-- What is not there yet is nobody's. -/
def Clean (w : World) (O : Owners) : Prop := ∀ k, w.heap.size ≤ k → O k = ro
theorem Clean.more {w w' : World} {O : Owners} (h : Clean w O) (hs : w.heap.size ≤ w'.heap.size) : Clean w' O := fun k hk => h k (Nat.le_trans hs hk)
/-- Types whose blocks nobody writes once they are there: bytes, numbers. -/
def Still (T : TypeId) : Prop := T = 5 ∨ T = 3
/-- The blocks of these types are as they were. -/
def Kept (P : TypeId → Prop) (w w' : World) : Prop := ∀ (g : Nat) (cs : Array Value) (T : TypeId), P T → w.heap[g]? = some (.cells cs T (0, 0)) → w'.heap[g]? = some (.cells cs T (0, 0))
theorem Kept.trans {P : TypeId → Prop} {a b c : World} (h : Kept P a b) (k : Kept P b c) : Kept P a c := fun g cs T hT hg => k g cs T hT (h g cs T hT hg)
theorem kept_below {P : TypeId → Prop} {w w' : World} (h : Below w.heap.size w w') : Kept P w w' := fun g cs T _ hg => hp_step hg h
theorem own_to {P : TypeId → Prop} {w w' : World} {base : Nat} {T : TypeId} {size n c : Nat} {a : Option Addr} {xs : List Value} (h : w.ownsRow base T size (.slice a n c) n xs) (hk : Kept P w w') (hT : P T) : w'.ownsRow base T size (.slice a n c) n xs :=
  own_kept h (fun g hg => by
    obtain ⟨cur, hcur⟩ := own_heap h g hg
    rw [hcur]; exact hk g cur _ hT hcur)
/-- What may have changed: blocks whose tags are in S. -/
structure Fr (S : Tag → Prop) (w : World) (O : Owners) (w' : World) (O' : Owners) : Prop where
  os : w'.os = w.os
  tape : w'.tape = w.tape
  output : w'.output = w.output
  size : w.heap.size ≤ w'.heap.size
  own : ∀ k, k < w.heap.size → O' k = O k
  same : ∀ k, k < w.heap.size → ¬ S (O k) → w'.heap[k]? = w.heap[k]?
  byt : Kept Still w w'
  clean : Clean w' O'
theorem Fr.refl (S : Tag → Prop) {w : World} {O : Owners} (h : Clean w O) : Fr S w O w O := ⟨rfl, rfl, rfl, Nat.le_refl _, fun _ _ => rfl, fun _ _ _ => rfl, fun _ _ _ _ h => h, h⟩
theorem Fr.trans {S : Tag → Prop} {w w1 w2 : World} {O O1 O2 : Owners} (h : Fr S w O w1 O1) (k : Fr S w1 O1 w2 O2) : Fr S w O w2 O2 :=
  ⟨k.os.trans h.os, k.tape.trans h.tape, k.output.trans h.output, Nat.le_trans h.size k.size, fun j hj => (k.own j (Nat.lt_of_lt_of_le hj h.size)).trans (h.own j hj),
    fun j hj hs => (k.same j (Nat.lt_of_lt_of_le hj h.size) (by rw [h.own j hj]; exact hs)).trans (h.same j hj hs), h.byt.trans k.byt, k.clean⟩
theorem Fr.mono {S S' : Tag → Prop} {w w1 : World} {O O1 : Owners} (h : Fr S w O w1 O1) (hs : ∀ t, S t → S' t) : Fr S' w O w1 O1 :=
  ⟨h.os, h.tape, h.output, h.size, h.own, fun j hj hn => h.same j hj (fun hh => hn (hs _ hh)), h.byt, h.clean⟩
/-- A call that changes nothing that was there; what it makes is nobody's. -/
theorem Fr.of_below {S : Tag → Prop} {w w' : World} {O : Owners} (hc : Clean w O) (h : Below w.heap.size w w') : Fr S w O w' O :=
  ⟨h.os, h.tape, h.output, h.size, fun _ _ => rfl, fun k hk _ => h.block k hk, kept_below h, hc.more h.size⟩
theorem Fr.below {S : Tag → Prop} {w w' : World} {O O' : Owners} (h : Fr S w O w' O') {n : Nat} (hn : n ≤ w.heap.size) (hs : ∀ k, k < n → ¬ S (O k)) : Below n w w' :=
  ⟨h.os, h.tape, h.output, h.size, fun k hk => h.same k (by omega) (hs k hk)⟩
theorem Fr.of_keep {S : Tag → Prop} {K : Nat → Prop} {w w' : World} {O : Owners} (hc : Clean w O) (h : Keep K w w') (hs : ∀ k, k < w.heap.size → K k → S (O k)) (ht : ∀ k cs T, Still T → w.heap[k]? = some (.cells cs T (0, 0)) → ¬ K k) : Fr S w O w' O :=
  ⟨h.os, h.tape, h.output, h.size, fun _ _ => rfl, fun k hk hn => h.block k hk (fun hh => hn (hs k hk hh)), fun g cs T hT hg => h.hp hg (ht g cs T hT hg), hc.more h.size⟩
theorem Fr.hp {S : Tag → Prop} {w w' : World} {O O' : Owners} (h : Fr S w O w' O') {k : Nat} {o : Obj} (hk : w.heap[k]? = some o) (hs : ¬ S (O k)) : w'.heap[k]? = some o :=
  (h.same k (Array.getElem?_eq_some_iff.1 hk).1 hs).trans hk
/-- A new block gets an owner. -/
theorem Fr.claim {S : Tag → Prop} {w w' : World} {O O' : Owners} (h : Fr S w O w' O') {k : Nat} (t : Tag) (hk : w.heap.size ≤ k) (hk2 : k < w'.heap.size) : Fr S w O w' (O'.put k t) :=
  ⟨h.os, h.tape, h.output, h.size, fun j hj => by rw [put_ne _ _ (by omega)]; exact h.own j hj, h.same, h.byt, fun j hj => by rw [put_ne _ _ (by omega)]; exact h.clean j hj⟩
/-- A store into a block of one's own. -/
theorem Fr.set {S : Tag → Prop} {w w' : World} {O O' : Owners} (h : Fr S w O w' O') {p : Addr} (hp : w.heap.size ≤ p.block ∨ S (O p.block)) {cs : Array Value} {T : TypeId} (hb : w'.heap[p.block]? = some (.cells cs T (0, 0))) (hT : ¬ Still T) (v : Value) : Fr S w O (w'.setCell p v) O' :=
  ⟨h.os, h.tape, h.output, by rw [size_set]; exact h.size, h.own, fun k hk hn => by
    rw [hp_set_ne (by rintro rfl; rcases hp with hp | hp <;> first | omega | exact hn hp)]
    exact h.same k hk hn, fun g ds T2 hT2 hg => by
      have h1 := h.byt g ds T2 hT2 hg
      rw [hp_set_ne (by
        rintro rfl
        rw [hb] at h1
        simp only [Option.some.injEq, Obj.cells.injEq] at h1
        exact hT (h1.2.1 ▸ hT2))]
      exact h1, fun k hk => h.clean k (by rwa [size_set] at hk)⟩
theorem Fr.drew {S : Tag → Prop} {w w' : World} {O O' : Owners} (h : Fr S w O w' O') : Fr S w O w'.drew O' := ⟨h.os, h.tape, h.output, h.size, h.own, h.same, h.byt, h.clean⟩
theorem Fr.drewN {S : Tag → Prop} {w w' : World} {O O' : Owners} (h : Fr S w O w' O') (n : Nat) : Fr S w O (w'.drewN n) O' := ⟨h.os, h.tape, h.output, h.size, h.own, h.same, h.byt, h.clean⟩
theorem Fr.alloc {S : Tag → Prop} {w w' : World} {O O' : Owners} (h : Fr S w O w' O') (o : Obj) : Fr S w O (w'.alloc o) O' := h.trans (Fr.of_below h.clean (below_new1 w' o))

/-- Cells that all may read. -/
def RoLie (w : World) (O : Owners) (a : Option Addr) (cs : List Value) : Prop := Lie w a cs ∧ ∀ g off, a = some ⟨g, off, none⟩ → O g = ro ∧ g < w.heap.size
theorem lie_same {w w' : World} {a : Option Addr} {cs : List Value} (h : Lie w a cs) (hs : w.heap.size ≤ w'.heap.size) (hk : ∀ g off, a = some ⟨g, off, none⟩ → w'.heap[g]? = w.heap[g]?) : Lie w' a cs := by
  rcases h with h | ⟨b, off, h1, h2, h3⟩
  · exact .inl h
  · refine .inr ⟨b, off, h1, by omega, fun i hi => ?_⟩
    rw [← h3 i hi]
    simp only [World.cell?, hk b off h1]
theorem RoLie.fr {S : Tag → Prop} {w w' : World} {O O' : Owners} {a : Option Addr} {cs : List Value} (h : RoLie w O a cs) (hS : ¬ S ro) (f : Fr S w O w' O') : RoLie w' O' a cs :=
  ⟨lie_same h.1 f.size (fun g off hg => f.same g (h.2 g off hg).2 (by rw [(h.2 g off hg).1]; exact hS)), fun g off hg => ⟨(f.own g (h.2 g off hg).2).trans (h.2 g off hg).1, Nat.lt_of_lt_of_le (h.2 g off hg).2 f.size⟩⟩

/-- A row of one's own, by its tag. -/
structure Row (w : World) (O : Owners) (t : Tag) (T : TypeId) (size : Nat) (a : Option Addr) (c n : Nat) (xs : List Value) : Prop where
  row : w.ownsRow 0 T size (.slice a n c) n xs
  tag : ∀ g, a = some ⟨g, 0, none⟩ → O g = t
theorem row_nil (w : World) (O : Owners) (t : Tag) (T : TypeId) (size : Nat) : Row w O t T size none 0 0 [] := ⟨World.ownsRow_nil _ _ _ _, by simp⟩
theorem Row.fr {S : Tag → Prop} {w w' : World} {O O' : Owners} {t : Tag} {T : TypeId} {size c n : Nat} {a : Option Addr} {xs : List Value} (h : Row w O t T size a c n xs) (hS : ¬ S t) (f : Fr S w O w' O') : Row w' O' t T size a c n xs :=
  ⟨own_kept h.row (fun g hg => f.same g (own_from h.row g hg).2 (by rw [h.tag g hg]; exact hS)), fun g hg => (f.own g (own_from h.row g hg).2).trans (h.tag g hg)⟩
/-- An append to it. -/
theorem Row.app {w w1 w2 : World} {O O1 : Owners} {S : Tag → Prop} {t : Tag} {T : TypeId} {size c n m c' : Nat} {a a' : Option Addr} {xs ys : List Value} (h : Row w1 O1 t T size a c n xs) (f : Fr S w O w1 O1) (hS : S t) (hT : ¬ Still T) (hn : 0 < n + m)
    (ho : w2.ownsRow 0 T size (.slice a' (n + m) c') (n + m) (xs ++ ys)) (hg : w1.grownBy w2 (Value.slice a n c).ownBlock) (hat : ∀ k, (Value.slice a' (n + m) c').ownBlock = some k → (Value.slice a n c).ownBlock = some k ∨ w1.heap.size ≤ k) :
    ∃ O2, Row w2 O2 t T size a' c' (n + m) (xs ++ ys) ∧ Fr S w O w2 O2 := by
  obtain ⟨g, rfl⟩ := own_ptr ho hn
  have hgz := (own_from ho g rfl).2
  have f2 : Fr S w1 O1 w2 O1 := ⟨hg.os, hg.tape, hg.output, hg.size, fun _ _ => rfl, fun k hk hn => hg.block k hk (fun e => hn (by
    rw [h.tag k (own_block h.row k e.symm)]; exact hS)), fun g ds T2 hT2 hgd => (hg.block g (kit.blk hgd).2.2 (fun e => own_ne h.row hgd (fun e2 => hT (e2 ▸ hT2)) g (own_block h.row g e.symm) rfl)).trans hgd, f.clean.more hg.size⟩
  by_cases hold : g < w1.heap.size
  · refine ⟨O1, ⟨ho, fun k hk => ?_⟩, f.trans f2⟩
    simp only [Option.some.injEq, Addr.mk.injEq, and_true] at hk
    subst hk
    rcases hat g rfl with e | e
    · exact h.tag g (own_block h.row g e)
    · omega
  · refine ⟨O1.put g t, ⟨ho, fun k hk => ?_⟩, f.trans (f2.claim t (by omega) hgz)⟩
    simp only [Option.some.injEq, Addr.mk.injEq, and_true] at hk
    subst hk
    exact put_self _ _ _
end Go.Proofs.YtcaakiaenfkeaaaGreat.ownr
