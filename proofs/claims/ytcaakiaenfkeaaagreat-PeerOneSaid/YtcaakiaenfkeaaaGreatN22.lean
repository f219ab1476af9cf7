/-
  The helpers of the statements of layer 10: same.Vote, same.Votes, Op.vote, less, awake.
-/
import Derived.Test.YtcaakiaenfkeaaaGreatN06
import Derived.Deep.CutBlock
import Derived.Deep.RegionHeld3
import Derived.Test.YtcaakiaenfkeaaaGreatN20
import Derived.Test.YtcaakiaenfkeaaaGreatN14
import Derived.Test.YtcaakiaenfkeaaaGreatN21
namespace Go.Proofs.YtcaakiaenfkeaaaGreat.acci
open Go.ChangeShapes Go.WideShapes Go.ChangeAt Go.RowKit
open Go.Proofs.YtcaakiaenfkeaaaGreat.kit Go.Proofs.YtcaakiaenfkeaaaGreat.mapkit Go.Proofs.YtcaakiaenfkeaaaGreat.byt Go.Proofs.YtcaakiaenfkeaaaGreat.own Go.Proofs.YtcaakiaenfkeaaaGreat.accd Go.Proofs.YtcaakiaenfkeaaaGreat.acca Go.Proofs.YtcaakiaenfkeaaaGreat.accb Go.Proofs.YtcaakiaenfkeaaaGreat.acck Go.Proofs.YtcaakiaenfkeaaaGreat.acce Go.Proofs.YtcaakiaenfkeaaaGreat.accf Go.Proofs.YtcaakiaenfkeaaaGreat.accg Go.Proofs.YtcaakiaenfkeaaaGreat.acch
set_option linter.unusedVariables false
set_option linter.unusedSimpArgs false
set_option maxHeartbeats 1000000
set_option maxRecDepth 100000

theorem eqBallot (w : World) (a b c d : Int) : (binOp .eql 28 (.agg #[.int .i64 a, .int .i64 b]) (.agg #[.int .i64 c, .int .i64 d])).run Tryz.prog w = .ok (.bool (a == c && b == d)) w := by
  cases h : (a == c) <;> cases h2 : (b == d) <;> go_simp
def sameV (x y : V4) : Bool := x.s == y.s && (x.r == y.r && x.n == y.n) && sameB x.l y.l
theorem sameV_iff (x y : V4) : sameV x y = true ↔ x = y := by
  obtain ⟨s, r, n, l⟩ := x
  obtain ⟨s', r', n', l'⟩ := y
  simp [sameV, sameB, and_assoc]
/-- A row of votes that can be read. -/
structure RowV (w : World) (v : Value) (xs : List Vt) : Prop where
  row : ∃ base a c, v = .slice a xs.length c ∧ w.ownsRow base 45 4 (.slice a xs.length c) xs.length (vcells xs)
  rd : ∀ x ∈ xs, Rd w x
theorem RowV.below {w w' : World} {v : Value} {xs : List Vt} (h : RowV w v xs) (hb : Below w.heap.size w w') : RowV w' v xs := by
  obtain ⟨⟨base, a, c, h1, h2⟩, h3⟩ := h
  exact ⟨⟨base, a, c, h1, own_below h2 hb⟩, fun x hx => (h3 x hx).below hb⟩
theorem RowV.cells {w : World} {v : Value} {xs : List Vt} (h : RowV w v xs) {i : Nat} (hi : i < xs.length) : ∃ g c, v = .slice (some ⟨g, 0, none⟩) xs.length c ∧ g < w.heap.size ∧ xs.length ≤ maxLen ∧
    w.cell? ⟨g, i * 4, none⟩ = some (.int .i64 xs[i].s) ∧ w.cell? ⟨g, i * 4 + 1, none⟩ = some (.int .i64 xs[i].r) ∧ w.cell? ⟨g, i * 4 + 2, none⟩ = some (.int .i64 xs[i].n) ∧ w.cell? ⟨g, i * 4 + 3, none⟩ = some (.slice xs[i].a xs[i].l.length xs[i].c) := by
  obtain ⟨⟨base, a, c, h1, h2⟩, h3⟩ := h
  obtain ⟨g, rfl⟩ := own_ptr h2 (by omega)
  have hcap : xs.length ≤ maxLen := by
    rcases h2.2 with ⟨hz0, _⟩ | ⟨g', cap, cur, e', hgb, hh, hc', hm', _⟩
    · simp at hz0
    · omega
  exact ⟨g, c, h1, (own_from h2 g rfl).2, hcap, vt_cells h2 hi⟩
theorem told_row {w w' : World} {v : Value} {ls : List V4} (h : accc.Told w w' v ls) (hl : ∀ x ∈ ls, x.l.length ≤ 2048) : ∃ xs, RowV w' v xs ∧ xs.map lv = ls ∧ ∀ x ∈ xs, accd.Body w' w.heap.size x := by
  obtain ⟨a, c, xs, rfl, h1, h2, h3⟩ := h
  refine ⟨xs, ⟨⟨_, a, c, rfl, h2⟩, fun x hx => body_rd (h3 x hx) ?_⟩, h1, h3⟩
  have := hl (lv x) (by rw [← h1]; exact List.mem_map_of_mem hx)
  have e : (lv x).l.length = x.l.length := rfl
  omega
theorem RowV.shape {w : World} {v : Value} {xs : List Vt} (h : RowV w v xs) : ∃ a c, v = .slice a xs.length c := by
  obtain ⟨⟨base, a, c, h1, _⟩, _⟩ := h
  exact ⟨a, c, h1⟩
end Go.Proofs.YtcaakiaenfkeaaaGreat.acci
/-
  The statements' awake.
-/
namespace Go.Proofs.YtcaakiaenfkeaaaGreat.accj
open Go.ChangeShapes Go.WideShapes Go.ChangeAt Go.RowKit
open Go.Proofs.YtcaakiaenfkeaaaGreat.kit Go.Proofs.YtcaakiaenfkeaaaGreat.mapkit Go.Proofs.YtcaakiaenfkeaaaGreat.byt Go.Proofs.YtcaakiaenfkeaaaGreat.own Go.Proofs.YtcaakiaenfkeaaaGreat.accd Go.Proofs.YtcaakiaenfkeaaaGreat.acca Go.Proofs.YtcaakiaenfkeaaaGreat.accb Go.Proofs.YtcaakiaenfkeaaaGreat.acck Go.Proofs.YtcaakiaenfkeaaaGreat.acce Go.Proofs.YtcaakiaenfkeaaaGreat.accf Go.Proofs.YtcaakiaenfkeaaaGreat.accg Go.Proofs.YtcaakiaenfkeaaaGreat.acch Go.Proofs.YtcaakiaenfkeaaaGreat.acci
set_option linter.unusedVariables false
set_option linter.unusedSimpArgs false
set_option maxHeartbeats 1000000
set_option maxRecDepth 100000

theorem lie_new1 (w : World) (a : Value) (T : TypeId) : Lie (w.alloc (.cells #[a] T)) (some ⟨w.heap.size, 0, none⟩) [a] := by
  refine .inr ⟨_, 0, rfl, by rw [size_new]; omega, fun i hi => ?_⟩
  have hb := kit.blk (hp_alloc_new w (.cells #[a] T))
  rw [Nat.zero_add, hb.1]
  match i, hi with
  | 0, _ => rfl
theorem keep_below {w w' : World} {b mb n : Nat} (hk : Keep (fun k => k = b ∨ k = mb) w w') (hn : n ≤ w.heap.size) (hb : n ≤ b) (hm : n ≤ mb) : Below n w w' := hk.below hn (fun k h e => by rcases e with e | e <;> omega)
end Go.Proofs.YtcaakiaenfkeaaaGreat.accj
/-
  Scripts: what came in; ran.
-/

namespace Go.Proofs.YtcaakiaenfkeaaaGreat.accr
open Go.ChangeShapes Go.WideShapes Go.ChangeAt Go.RowKit Go.Joins
open Go.Proofs.YtcaakiaenfkeaaaGreat.kit Go.Proofs.YtcaakiaenfkeaaaGreat.mapkit Go.Proofs.YtcaakiaenfkeaaaGreat.byt Go.Proofs.YtcaakiaenfkeaaaGreat.own Go.Proofs.YtcaakiaenfkeaaaGreat.accd Go.Proofs.YtcaakiaenfkeaaaGreat.acca Go.Proofs.YtcaakiaenfkeaaaGreat.accb Go.Proofs.YtcaakiaenfkeaaaGreat.acck Go.Proofs.YtcaakiaenfkeaaaGreat.acce Go.Proofs.YtcaakiaenfkeaaaGreat.accf Go.Proofs.YtcaakiaenfkeaaaGreat.accg Go.Proofs.YtcaakiaenfkeaaaGreat.acch Go.Proofs.YtcaakiaenfkeaaaGreat.acci Go.Proofs.YtcaakiaenfkeaaaGreat.accj
set_option linter.unusedVariables false
set_option linter.unusedSimpArgs false
set_option maxHeartbeats 1000000
set_option maxRecDepth 100000

structure OpV where
  kind : Int
  s : Int
  r : Int
  n : Int
  ad : Option Addr
  c : Nat
  l : List Nat
def ocells (o : OpV) : List Value := [.int .i64 o.kind, .int .i64 o.s, .int .i64 o.r, .int .i64 o.n, .slice o.ad o.l.length o.c]
def OpV.vt (o : OpV) : Vt := ⟨o.s, o.r, o.n, o.l, o.ad, o.c⟩
structure GoodO (w : World) (o : OpV) : Prop where
  lie : Lie w o.ad (bcells o.l)
  byt : Byt o.l
  nil : o.ad = none → o.l.length = 0 ∧ o.c = 0
  cap : o.l.length ≤ o.c
  len : o.c ≤ maxLen
  slot : -9223372036854775808 ≤ o.s ∧ o.s ≤ 9223372036854775807
theorem GoodO.below {w w' : World} {o : OpV} (h : GoodO w o) (hb : Below w.heap.size w w') : GoodO w' o := ⟨h.lie.below hb, h.byt, h.nil, h.cap, h.len, h.slot⟩
theorem GoodO.rd {w : World} {o : OpV} (h : GoodO w o) : Rd2 w o.vt := ⟨h.lie, h.nil, by have h1 := h.cap; have h2 := h.len; unfold maxLen at h2; show o.l.length ≤ _; omega⟩

section
variable {H : Type} {enc : TypeId × Value → H} {P : Program}
theorem elem_ints {W : World} {t e : TypeId} {k : IntKind} {v : Value} {n : Nat} {y : DataW H × List MemPlace}
    (hs : P.underlying t = some (.slice e)) (he : P.underlying e = some (.int k)) (hC : P.cellsOf e = 1)
    (hf : DataW.trod enc P W 0 (fun _ => true) true n t [v] = some y) :
    ∃ (a : Option Addr) (l : List Int) (cap : Nat), v = .slice a l.length cap ∧ l.length ≤ cap ∧ cap ≤ maxLen ∧ (a = none → l.length = 0 ∧ cap = 0) ∧ Lie W a (l.map (Value.int k)) ∧ (∀ n ∈ l, (Lit.int k n).wf = true) := by
  rcases open_ints hs he hC hf with ⟨hcs, hx⟩ | ⟨a, len', cap', zs, hcs, _, hl, hm, hz, hx, hcell, hwz⟩
  · simp at hcs
    subst hcs
    exact ⟨none, [], 0, rfl, Nat.le_refl _, by simp [maxLen], by simp, .inl rfl, by simp⟩
  · simp at hcs
    subst hcs
    simp only [if_true] at hz
    have hlen : (zs.take len').length = len' := by simp; omega
    refine ⟨some a, zs.take len', cap', by rw [hlen], by omega, hm, by simp, ?_, fun n hn => hwz n (List.mem_of_mem_take hn)⟩
    by_cases h0 : len' = 0
    · left; simp [h0]
    · right
      obtain ⟨b, off, rfl, hc⟩ := ints_at hcell (by omega)
      refine ⟨b, off, rfl, cell_lt (hc 0 (by omega)), fun i hi => ?_⟩
      simp only [List.length_map, hlen] at hi
      rw [hc i (by omega)]
      simp [List.getElem?_take, hi]
      rw [List.getElem?_eq_getElem (by omega)]
      simp
end
theorem byte_wf {l : List Int} (h : ∀ n ∈ l, (Lit.int .u8 n).wf = true) : ∀ x ∈ l, 0 ≤ x ∧ x < 256 := by
  intro x hx
  have := h x hx
  simp [Lit.wf, IntKind.min, IntKind.max, IntKind.signed, IntKind.bits] at this
  omega
theorem int_wf {s : Int} (h : (Lit.int .i64 s).wf = true) : -9223372036854775808 ≤ s ∧ s ≤ 9223372036854775807 := by
  simp [Lit.wf, IntKind.min, IntKind.max, IntKind.signed, IntKind.bits] at h
  omega
theorem nat_list (l : List Int) (h : ∀ x ∈ l, 0 ≤ x ∧ x < 256) : ∃ m : List Nat, l = m.map (fun x : Nat => (x : Int)) ∧ byt.Byt m := by
  induction l with
  | nil => exact ⟨[], rfl, by intro x hx; simp at hx⟩
  | cons x l ih =>
    obtain ⟨m, rfl, hm⟩ := ih fun y hy => h y (List.mem_cons_of_mem _ hy)
    have hx := h x (List.mem_cons_self ..)
    refine ⟨x.toNat :: m, by simp; omega, fun y hy => ?_⟩
    rcases List.mem_cons.1 hy with rfl | hy
    · omega
    · exact hm y hy
theorem bcells_of (m : List Nat) : (m.map (fun x : Nat => (x : Int))).map (Value.int .u8) = byt.bcells m := by simp [byt.bcells]
theorem list5 {α : Type} {l : List α} (h : l.length = 5) : ∃ a b c d e, l = [a, b, c, d, e] := by
  match l, h with | [a, b, c, d, e], _ => exact ⟨a, b, c, d, e, rfl⟩
theorem list4' {α : Type} {l : List α} (h : l.length = 4) : ∃ a b c d, l = [a, b, c, d] := by
  match l, h with | [a, b, c, d], _ => exact ⟨a, b, c, d, rfl⟩
theorem list2 {α : Type} {l : List α} (h : l.length = 2) : ∃ a b, l = [a, b] := by
  match l, h with | [a, b], _ => exact ⟨a, b, rfl⟩

/-- What the datum of a call says of its bytes' length. -/
def DataO {H : Type} (o : OpV) (d : DataW H) : Prop :=
  ∃ d0 d1 d2 d3, d = .agg [d0, d1, d2, d3] ∧ (o.l = [] ∨ ∃ es sp, d3 = .slice es sp ∧ es.length = o.l.length)
section
variable {H : Type} {enc : TypeId × Value → H} {P : Program}
theorem elem_intsD {W : World} {t e : TypeId} {k : IntKind} {v : Value} {n : Nat} {y : DataW H × List MemPlace}
    (hs : P.underlying t = some (.slice e)) (he : P.underlying e = some (.int k)) (hC : P.cellsOf e = 1)
    (hf : DataW.trod enc P W 0 (fun _ => true) true n t [v] = some y) {a : Option Addr} {m cap : Nat} (hv : v = .slice a m cap) : m = 0 ∨ ∃ es sp, y.1 = .slice es sp ∧ es.length = m := by
  rcases open_ints hs he hC hf with ⟨hcs, hx⟩ | ⟨a, len', cap', zs, hcs, _, hl, hm, hz, hx, hcell, hwz⟩
  · simp at hcs
    rw [hcs] at hv
    simp only [Value.slice.injEq] at hv
    exact .inl hv.2.1.symm
  · simp at hcs
    rw [hcs] at hv
    simp only [Value.slice.injEq] at hv
    simp only [if_true] at hz
    subst hx
    refine .inr ⟨_, _, rfl, ?_⟩
    simp [lits]
    omega
end
/-- A ballot's two cells. -/
theorem ballot_cells {H : Type} {enc : TypeId × Value → H} {W : World} {n : Nat} {u v : Value} {y : DataW H × List MemPlace} (h : DataW.trod enc Tryz.prog W 0 (fun _ => true) true n 28 [u, v] = some y) : ∃ r m : Int, u = .int .i64 r ∧ v = .int .i64 m := by
  obtain ⟨ys, n', hy, hyl, hcl, hf⟩ := struct_cells Tryz.underlying28 (by kernel_rfl) (by kernel_rfl) h
  obtain ⟨v0, z0, e0, g0, t0⟩ := hf 0 _ rfl
  obtain ⟨v1, z1, e1, g1, t1⟩ := hf 1 _ rfl
  obtain ⟨a, ea, _, wa⟩ := DataW.trod_int Tryz.underlying3 t0
  obtain ⟨b, eb, _, wb⟩ := DataW.trod_int Tryz.underlying3 t1
  simp at e0 e1 ea eb
  subst e0 e1 ea eb
  exact ⟨a, b, rfl, rfl⟩
theorem row_op {w : World} {a : Option Addr} {l : List OpV} (h : RowsAt w a 5 (l.map ocells)) (k : Nat) (hk : k < l.length) :
    ∃ g off, a = some ⟨g, off, none⟩ ∧ g < w.heap.size ∧ w.cell? ⟨g, off + k * 5, none⟩ = some (.int .i64 l[k].kind) ∧ w.cell? ⟨g, off + k * 5 + 1, none⟩ = some (.int .i64 l[k].s) ∧ w.cell? ⟨g, off + k * 5 + 2, none⟩ = some (.int .i64 l[k].r) ∧ w.cell? ⟨g, off + k * 5 + 3, none⟩ = some (.int .i64 l[k].n) ∧ w.cell? ⟨g, off + k * 5 + 4, none⟩ = some (.slice l[k].ad l[k].l.length l[k].c) := by
  rcases h with h | ⟨b, off, rfl, hz, h3⟩
  · have : l = [] := by simpa using h
    subst this; simp at hk
  · have hi : k < (l.map ocells).length := by simpa using hk
    have e0 := h3 k hi 0 (by omega)
    have e1 := h3 k hi 1 (by omega)
    have e2 := h3 k hi 2 (by omega)
    have e3 := h3 k hi 3 (by omega)
    have e4 := h3 k hi 4 (by omega)
    simp only [List.getElem_map, Nat.add_zero] at e0 e1 e2 e3 e4
    exact ⟨b, off, rfl, hz, e0.trans rfl, e1.trans rfl, e2.trans rfl, e3.trans rfl, e4.trans rfl⟩
/-- What a call does to an acceptor. -/
def opS (A : AS) (o : OpV) : AS := if o.kind = 1 then prepS A o.r o.n else if o.kind = 2 then forgetS A o.s else accS A (lv o.vt)
def stOf (A : AS) (l : List OpV) : AS := l.foldl opS A
theorem stOf_snoc (A : AS) (l : List OpV) (k : Nat) (hk : k < l.length) : stOf A (l.take (k + 1)) = opS (stOf A (l.take k)) l[k] := by
  rw [List.take_succ_eq_append_getElem hk, stOf, List.foldl_append]; rfl
/-- One call on the acceptor alone: the three ways of a round. -/
theorem opS_1 (A : AS) (o : OpV) (h : o.kind = 1) : opS A o = prepS A o.r o.n := if_pos h
theorem opS_2 (A : AS) (o : OpV) (h : o.kind = 2) : opS A o = forgetS A o.s := by rw [opS, if_neg (by omega), if_pos h]
theorem opS_3 (A : AS) (o : OpV) (h : o.kind ≠ 1) (h2 : o.kind ≠ 2) : opS A o = accS A (lv o.vt) := by rw [opS, if_neg h, if_neg h2]

end Go.Proofs.YtcaakiaenfkeaaaGreat.accr
/-
  What a call does to an acceptor, in plain words; the statements' less; rows while an acceptor turns.
-/
namespace Go.Proofs.YtcaakiaenfkeaaaGreat.accl
open Go.ChangeShapes Go.WideShapes Go.ChangeAt Go.RowKit Go.Joins
open Go.Proofs.YtcaakiaenfkeaaaGreat.kit Go.Proofs.YtcaakiaenfkeaaaGreat.mapkit Go.Proofs.YtcaakiaenfkeaaaGreat.byt Go.Proofs.YtcaakiaenfkeaaaGreat.own Go.Proofs.YtcaakiaenfkeaaaGreat.accd Go.Proofs.YtcaakiaenfkeaaaGreat.acca Go.Proofs.YtcaakiaenfkeaaaGreat.accb Go.Proofs.YtcaakiaenfkeaaaGreat.acck Go.Proofs.YtcaakiaenfkeaaaGreat.acce Go.Proofs.YtcaakiaenfkeaaaGreat.accf Go.Proofs.YtcaakiaenfkeaaaGreat.accg Go.Proofs.YtcaakiaenfkeaaaGreat.acch Go.Proofs.YtcaakiaenfkeaaaGreat.acci Go.Proofs.YtcaakiaenfkeaaaGreat.accj Go.Proofs.YtcaakiaenfkeaaaGreat.accr
set_option linter.unusedVariables false
set_option linter.unusedSimpArgs false
set_option maxHeartbeats 1000000
set_option maxRecDepth 100000

theorem less_iff {a b c d : Int} : lessB a b c d = true ↔ a < c ∨ a = c ∧ b < d := by simp [lessB]
theorem less_not {a b c d : Int} : lessB a b c d = false ↔ ¬ (a < c ∨ a = c ∧ b < d) := by rw [← less_iff]; simp
theorem less_self (a b : Int) : lessB a b a b = false := by rw [less_not]; omega
/-- No vote's ballot is above the promise. -/
def Bal (A : AS) : Prop := ∀ v ∈ A.vs, lessB A.r A.n v.r v.n = false
theorem acc0 {A : AS} {v : V4} (h : accE A.r A.n A.first v = 0) : realB v.r v.n = true ∧ v.l.length ≤ 2048 ∧ lessB v.r v.n A.r A.n = false ∧ A.first ≤ v.s ∧ v.s < A.first + 16 := by
  rw [accE] at h
  split at h
  · omega
  · rename_i h1
    split at h
    · omega
    · rename_i h2
      split at h
      · omega
      · split at h
        · omega
        · refine ⟨?_, by omega, by simpa using h2, by omega, by omega⟩
          cases hh : realB v.r v.n with
          | true => rfl
          | false => exact absurd (.inl hh) h1
theorem prep0 {A : AS} {r n : Int} (h : prepE A r n = 0) : realB r n = true ∧ lessB r n A.r A.n = false := by
  rw [prepE] at h
  split at h
  · omega
  · rename_i h1
    split at h
    · omega
    · rename_i h2
      exact ⟨by simpa using h1, by simpa using h2⟩
theorem mem_put4 {vs : List V4} {v x : V4} : x ∈ put4 vs v ↔ x = v ∨ x ∈ vs ∧ x.s ≠ v.s := by
  rw [put4, List.mem_append, List.mem_cons, List.mem_filter, List.mem_filter]
  simp only [decide_eq_true_eq]
  constructor
  · rintro (⟨h, h2⟩ | h | ⟨h, h2⟩)
    · exact .inr ⟨h, by omega⟩
    · exact .inl h
    · exact .inr ⟨h, by omega⟩
  · rintro (h | ⟨h, h2⟩)
    · exact .inr (.inl h)
    · rcases Int.lt_or_gt_of_ne h2 with h3 | h3
      · exact .inl ⟨h, h3⟩
      · exact .inr (.inr ⟨h, h3⟩)
theorem mem_from4 {vs : List V4} {d : Int} {x : V4} : x ∈ from4 vs d ↔ x ∈ vs ∧ d ≤ x.s := by simp [from4, List.mem_filter]
theorem bal_op {A : AS} (h : Bal A) (o : OpV) : Bal (opS A o) := by
  rw [opS]
  split
  · rw [prepS]
    split
    · rename_i hE
      have h2 := (prep0 hE).2
      intro v hv
      have h1 := h v hv
      simp only [less_not] at *
      omega
    · exact h
  · split
    · rw [forgetS]
      split
      · intro v hv
        exact h v (mem_from4.1 hv).1
      · exact h
    · rw [accS]
      split
      · rename_i hE
        obtain ⟨-, -, h2, -, -⟩ := acc0 hE
        intro v hv
        rcases mem_put4.1 hv with rfl | ⟨hv, -⟩
        · exact less_self _ _
        · have h1 := h v hv
          simp only [less_not, lv] at *
          omega
      · exact h
theorem bal_st {A : AS} (h : Bal A) : ∀ l : List OpV, Bal (stOf A l) := by
  intro l
  induction l generalizing A with
  | nil => exact h
  | cons o l ih => exact ih (bal_op h o)
theorem bal_start : Bal startS := by intro v hv; simp [startS] at hv
/-- What a call keeps. -/
theorem op_keeps (A : AS) (o : OpV) (h : Bal A) : lessB (opS A o).r (opS A o).n A.r A.n = false ∧ A.first ≤ (opS A o).first ∧
    ∀ v ∈ A.vs, v.s < (opS A o).first ∨ ∃ x ∈ (opS A o).vs, x.s = v.s ∧ lessB x.r x.n v.r v.n = false := by
  have hself : ∀ v ∈ A.vs, v.s < A.first ∨ ∃ x ∈ A.vs, x.s = v.s ∧ lessB x.r x.n v.r v.n = false := fun v hv => .inr ⟨v, hv, rfl, less_self _ _⟩
  rw [opS]
  split
  · rw [prepS]
    split
    · rename_i hE
      exact ⟨(prep0 hE).2, Int.le_refl _, hself⟩
    · exact ⟨less_self _ _, Int.le_refl _, hself⟩
  · split
    · rw [forgetS]
      split
      · rename_i hf
        refine ⟨less_self _ _, by have := hf.1; show A.first ≤ o.s; omega, fun v hv => ?_⟩
        by_cases hs : v.s < o.s
        · exact .inl hs
        · exact .inr ⟨v, mem_from4.2 ⟨hv, by omega⟩, rfl, less_self _ _⟩
      · exact ⟨less_self _ _, Int.le_refl _, hself⟩
    · rw [accS]
      split
      · rename_i hE
        obtain ⟨-, -, h2, -, -⟩ := acc0 hE
        refine ⟨h2, Int.le_refl _, fun v hv => ?_⟩
        by_cases hs : v.s = (lv o.vt).s
        · refine .inr ⟨lv o.vt, mem_put4.2 (.inl rfl), hs.symm, ?_⟩
          have h1 := h v hv
          simp only [less_not] at *
          omega
        · exact .inr ⟨v, mem_put4.2 (.inr ⟨hv, hs⟩), rfl, less_self _ _⟩
      · exact ⟨less_self _ _, Int.le_refl _, hself⟩

/-- An acceptor's votes stand by rising slots, near enough. -/
theorem is_ord {w : World} {base b mb : Nat} {A : AS} (h : AccIs w base b mb A) : A.vs.Pairwise (fun x y => x.s < y.s) := by
  obtain ⟨vs, h1, h2⟩ := h
  rw [← h2]
  exact List.pairwise_map.2 h1.ord
theorem is_rng {w : World} {base b mb : Nat} {A : AS} (h : AccIs w base b mb A) : ∀ v ∈ A.vs, A.first ≤ v.s ∧ v.s < A.first + 16 := by
  obtain ⟨vs, h1, h2⟩ := h
  rw [← h2]
  intro v hv
  obtain ⟨x, hx, rfl⟩ := List.mem_map.1 hv
  exact h1.rng x hx
theorem is_len {w : World} {base b mb : Nat} {A : AS} (h : AccIs w base b mb A) : A.vs.length ≤ 16 := by
  obtain ⟨vs, h1, h2⟩ := h
  rw [← h2, List.length_map]
  exact h1.len
theorem is_one {w : World} {base b mb : Nat} {A : AS} (h : AccIs w base b mb A) : 1 ≤ A.first ∧ A.first ≤ 1099511627776 := by
  obtain ⟨vs, h1, h2⟩ := h
  exact h1.one
theorem is_fit {w : World} {base b mb : Nat} {A : AS} (h : AccIs w base b mb A) : ∀ v ∈ A.vs, v.l.length ≤ 2048 := by
  obtain ⟨vs, h1, h2⟩ := h
  rw [← h2]
  intro v hv
  obtain ⟨x, hx, rfl⟩ := List.mem_map.1 hv
  exact h1.fit x hx
theorem is_lt {w : World} {base b mb : Nat} {A : AS} (h : AccIs w base b mb A) : b < w.heap.size ∧ mb < w.heap.size := by
  obtain ⟨vs, h1, h2⟩ := h
  obtain ⟨es, cl, hm⟩ := h1.map.obj
  exact ⟨(kit.blk h1.blk).2.2, (Array.getElem?_eq_some_iff.1 hm).1⟩
/-- A row stays while an acceptor turns. -/
theorem RowV.keep {w w' : World} {base b mb : Nat} {A : AS} {v : Value} {xs : List Vt} (h : RowV w v xs) (hA : AccIs w base b mb A) (hk : Keep (fun k => k = b ∨ k = mb) w w') : RowV w' v xs := by
  obtain ⟨vs, h1, h2⟩ := hA
  obtain ⟨⟨bs, a, c, e, hr⟩, hrd⟩ := h
  exact ⟨⟨bs, a, c, e, h1.row hk hr (by decide)⟩, fun x hx => acc_rd h1 hk (hrd x hx)⟩
/-- What Votes tells, as a row. -/
theorem votes_row (w : World) (base b mb : Nat) (A : AS) (h : AccIs w base b mb A) :
    Calls Tryz.prog 42 #[.pointer (some ⟨b, 0, none⟩)] w fun e w' => ∃ a c xs, e = .returned (.slice a xs.length c) ∧ RowV w' (.slice a xs.length c) xs ∧ xs.map lv = A.vs ∧ Below w.heap.size w w' := by
  refine (votes_ok w base b mb A h).mono ?_
  rintro e w' ⟨v, rfl, ht, hb⟩
  obtain ⟨xs, h1, h2, h3⟩ := told_row ht (is_fit h)
  obtain ⟨a, c, rfl⟩ := h1.shape
  exact ⟨a, c, xs, rfl, h1, h2, hb⟩

end Go.Proofs.YtcaakiaenfkeaaaGreat.accl
/-
  An acceptor's Load.
-/
namespace Go.Proofs.YtcaakiaenfkeaaaGreat.accm
open Go.ChangeShapes Go.WideShapes Go.ChangeAt Go.RowKit Go.Joins
open Go.Proofs.YtcaakiaenfkeaaaGreat.kit Go.Proofs.YtcaakiaenfkeaaaGreat.mapkit Go.Proofs.YtcaakiaenfkeaaaGreat.byt Go.Proofs.YtcaakiaenfkeaaaGreat.own Go.Proofs.YtcaakiaenfkeaaaGreat.accd Go.Proofs.YtcaakiaenfkeaaaGreat.acca Go.Proofs.YtcaakiaenfkeaaaGreat.accb Go.Proofs.YtcaakiaenfkeaaaGreat.acck Go.Proofs.YtcaakiaenfkeaaaGreat.acce Go.Proofs.YtcaakiaenfkeaaaGreat.accf Go.Proofs.YtcaakiaenfkeaaaGreat.accg Go.Proofs.YtcaakiaenfkeaaaGreat.acch Go.Proofs.YtcaakiaenfkeaaaGreat.acci Go.Proofs.YtcaakiaenfkeaaaGreat.accj Go.Proofs.YtcaakiaenfkeaaaGreat.accr Go.Proofs.YtcaakiaenfkeaaaGreat.accl
set_option linter.unusedVariables false
set_option linter.unusedSimpArgs false
set_option maxHeartbeats 4000000
set_option maxRecDepth 100000

/-- May this vote be the next one? -/
def goodV (r n first least : Int) (v : V4) : Prop := least ≤ v.s ∧ v.s < first + 16 ∧ realB v.r v.n = true ∧ lessB r n v.r v.n = false ∧ v.l.length ≤ 2048
/-- The least slot of the k-th. -/
def lst (first : Int) (vs : List V4) : Nat → Int
  | 0 => first
  | k + 1 => match vs[k]? with
    | some v => v.s + 1
    | none => 0
def okH (r n first : Int) : Prop := 1 ≤ first ∧ first ≤ 1099511627776 ∧ (r = 0 ∧ n = 0 ∨ realB r n = true)
def okL (r n first : Int) (vs : List V4) : Prop := okH r n first ∧ ∀ k (hk : k < vs.length), goodV r n first (lst first vs k) vs[k]
theorem lst_succ (first : Int) (vs : List V4) (k : Nat) (hk : k < vs.length) : lst first vs (k + 1) = vs[k].s + 1 := by
  rw [lst, List.getElem?_eq_getElem hk]
theorem lst_above {r n first : Int} {vs : List V4} : ∀ k, k ≤ vs.length → (∀ j (hj : j < vs.length), j < k → goodV r n first (lst first vs j) vs[j]) → ∀ j (hj : j < vs.length), j < k → vs[j].s < lst first vs k
  | 0, _, _, j, _, h => by omega
  | k + 1, hk, hg, j, hj, h => by
    rw [lst_succ first vs k (by omega)]
    by_cases e : j = k
    · subst e; omega
    · have h1 := lst_above k (by omega) (fun i hi hik => hg i hi (by omega)) j hj (by omega)
      have h2 := (hg k (by omega) (by omega)).1
      omega
theorem lst_from {r n first : Int} {vs : List V4} : ∀ k, k ≤ vs.length → (∀ j (hj : j < vs.length), j < k → goodV r n first (lst first vs j) vs[j]) → first ≤ lst first vs k ∧ (k = 0 ∨ lst first vs k ≤ first + 16)
  | 0, _, _ => ⟨Int.le_refl _, .inl rfl⟩
  | k + 1, hk, hg => by
    have h1 := lst_from k (by omega) (fun i hi hik => hg i hi (by omega))
    have h2 := hg k (by omega) (by omega)
    rw [lst_succ first vs k (by omega)]
    have h3 := h2.1
    have h4 := h2.2.1
    exact ⟨by omega, .inr (by omega)⟩
theorem put4_end {L : List V4} {v : V4} (h : ∀ x ∈ L, x.s < v.s) : put4 L v = L ++ [v] := by
  rw [put4]
  have e1 : L.filter (fun x => decide (x.s < v.s)) = L := List.filter_eq_self.2 (fun x hx => by simpa using h x hx)
  have e2 : L.filter (fun x => decide (v.s < x.s)) = [] := List.filter_eq_nil_iff.2 (fun x hx => by have := h x hx; simp; omega)
  rw [e1, e2]
theorem neBallotZ (w : World) (a b : Int) : (binOp .neq 28 (.agg #[.int .i64 a, .int .i64 b]) (.agg #[.int .i64 0, .int .i64 0])).run Tryz.prog w = .ok (.bool (!(a == 0 && b == 0))) w := by
  cases h : (a == 0) <;> cases h2 : (b == 0) <;> go_simp
/-- An acceptor that is being filled. -/
def Fill (w : World) (base b mb : Nat) (r n first : Int) (L : List V4) : Prop := ∃ xs, AccAt w base b mb r n first xs ∧ xs.map lv = L
/-- What Load answers. -/
def LoadR (w : World) (r n first : Int) (L : List V4) (e : Ending) (w' : World) : Prop :=
  Below w.heap.size w w' ∧ ((okL r n first L ∧ ∃ b mb, e = .returned (.tuple #[.pointer (some ⟨b, 0, none⟩), .int .i64 0]) ∧ w.heap.size ≤ b ∧ w.heap.size ≤ mb ∧ AccIs w' w.heap.size b mb ⟨r, n, first, L⟩) ∨ (¬ okL r n first L ∧ e = .returned (.tuple #[.pointer none, .int .i64 21])))

theorem load_no (w : World) (r n first : Int) (v : Value) (L : List V4) (h : ¬ okH r n first) :
    Calls Tryz.prog 31 #[.agg #[.int .i64 r, .int .i64 n], .int .i64 first, v] w (LoadR w r n first L) := by
  have HNO := Lib.hid (show ¬ okL r n first L from fun hh => h hh.1)
  obtain ⟨w1, hw1⟩ : ∃ w1, w1 = w.alloc (.cells #[.int .i64 r, .int .i64 n] 28) := ⟨_, rfl⟩
  have HB1 := Lib.hid (show Below w.heap.size w w1 by rw [hw1]; exact below_new1 _ _)
  have hn1 : w1.heap[w.heap.size]? = some (.cells #[.int .i64 r, .int .i64 n] 28 (0, 0)) := by rw [hw1]; exact hp_alloc_new _ _
  obtain ⟨q0, q1, -, -, qz⟩ := blk2 hn1
  have HW := Lib.hid hw1
  clear hw1 hn1
  by_cases c1 : first < 1
  · have t1 : decide (first < 1) = true := decide_eq_true c1
    clear h
    go_enter Tryz.func31, Tryz.ntmps31
    go_wp2_with fail
    rw [← HW.out]
    exact bodyPost_ret (v := .tuple #[.pointer none, .int .i64 21]) (by simp [results, Tryz.results31, go_sem]) rfl ⟨HB1.out, .inr ⟨HNO.out, rfl⟩⟩
  · by_cases c2 : 1099511627776 < first
    · have t1 : decide (first < 1) = false := decide_eq_false c1
      have t2 : decide (1099511627776 < first) = true := decide_eq_true c2
      clear h
      go_enter Tryz.func31, Tryz.ntmps31
      go_wp2_with fail
      rw [← HW.out]
      exact bodyPost_ret (v := .tuple #[.pointer none, .int .i64 21]) (by simp [results, Tryz.results31, go_sem]) rfl ⟨HB1.out, .inr ⟨HNO.out, rfl⟩⟩
    · have t1 : decide (first < 1) = false := decide_eq_false c1
      have t2 : decide (1099511627776 < first) = false := decide_eq_false c2
      have hz : (!(r == 0 && n == 0)) = true := by
        cases hh : (r == 0 && n == 0) with
        | false => rfl
        | true =>
          simp at hh
          exact absurd ⟨by omega, by omega, .inl hh⟩ h
      have hre : realB r n = false := by
        cases hh : realB r n with
        | false => rfl
        | true => exact absurd ⟨by omega, by omega, .inr hh⟩ h
      have hq := fun w => neBallotZ w r n
      rw [hz] at hq
      have HRE := Lib.hid (real_any r n w1)
      rw [hre] at HRE
      clear h hz hre
      go_enter Tryz.func31, Tryz.ntmps31
      go_wp2_with fail
      rw [← HW.out]
      refine HRE.out.mono ?_; rintro e w2 ⟨rfl, hb2⟩
      have HB2 := Lib.hid (below_step HB1.out hb2)
      clear hb2 HRE
      go_wp2_with fail
      exact bodyPost_ret (v := .tuple #[.pointer none, .int .i64 21]) (by simp [results, Tryz.results31, go_sem]) rfl ⟨HB2.out, .inr ⟨HNO.out, rfl⟩⟩

theorem load_yes (w : World) (r n first : Int) (a : Option Addr) (c : Nat) (vs : List Vt) (hrow : RowV w (.slice a vs.length c) vs) (h : okH r n first) (hsl : ∀ v ∈ vs, -9223372036854775808 ≤ v.s ∧ v.s ≤ 9223372036854775807) :
    Calls Tryz.prog 31 #[.agg #[.int .i64 r, .int .i64 n], .int .i64 first, .slice a vs.length c] w (LoadR w r n first (vs.map lv)) := by
  obtain ⟨hf1, hf2, hrn⟩ := h
  have HH := Lib.hid (show okH r n first from ⟨hf1, hf2, hrn⟩)
  obtain ⟨w1, hw1⟩ : ∃ w1, w1 = w.alloc (.cells #[.int .i64 r, .int .i64 n] 28) := ⟨_, rfl⟩
  have HB1 := Lib.hid (show Below w.heap.size w w1 by rw [hw1]; exact below_new1 _ _)
  have hn1 : w1.heap[w.heap.size]? = some (.cells #[.int .i64 r, .int .i64 n] 28 (0, 0)) := by rw [hw1]; exact hp_alloc_new _ _
  have HN1 := Lib.hid hn1
  obtain ⟨q0, q1, -, -, qz⟩ := blk2 hn1
  have HW := Lib.hid hw1
  have t1 : decide (first < 1) = false := decide_eq_false (by omega)
  have t2 : decide (1099511627776 < first) = false := decide_eq_false (by omega)
  have HRW := Lib.hid (fun (wx : World) (hb : Below w.heap.size w wx) => hrow.below hb)
  have HSL := Lib.hid hsl
  have hmm := @run_makeMap Tryz.prog
  clear hw1 hn1 hrow hsl
  go_enter Tryz.func31, Tryz.ntmps31
  go_upto_region 1 with fail
  rw [← HW.out]
  go_cut [27] from 12 to 27 (fun t wx => t = .bool false ∧ Hid (Below w1.heap.size w1 wx))
  case first =>
    have hq := fun w => neBallotZ w r n
    by_cases hz : (r == 0 && n == 0) = true
    · rw [hz] at hq
      simp only [Bool.not_true] at hq
      clear hz hrn
      go_wp2_with fail
      go_meet
      case rel => exact ⟨rfl, (Below.refl _ _ : Below w1.heap.size w1 w1)⟩
    · have hz' : (r == 0 && n == 0) = false := by simpa using hz
      have hre : realB r n = true := by
        rcases hrn with ⟨h1, h2⟩ | h
        · exact absurd (by simp [h1, h2]) hz
        · exact h
      rw [hz'] at hq
      simp only [Bool.not_false] at hq
      have HRE := Lib.hid (real_any r n w1)
      rw [hre] at HRE
      clear hz hz' hrn hre
      go_wp2_with fail
      refine HRE.out.mono ?_; rintro e w2 ⟨rfl, hb2⟩
      have HB2 := Lib.hid hb2
      clear hb2 HRE
      go_wp2_with fail
      go_meet
      case rel => exact ⟨rfl, HB2⟩
  case rest =>
    obtain ⟨rfl, HBC⟩ := hcut
    have hnc := hp_step HN1.out HBC.out
    have HBW := Lib.hid (below_step HB1.out HBC.out)
    obtain ⟨q0, q1, -, -, qz⟩ := blk2 hnc
    have HNC := Lib.hid hnc
    have hN := new2 wc (.map #[] 0) (.cells #[.int .i64 r, .int .i64 n, .int .i64 first, .map (some wc.heap.size)] 105)
    have hbN := below_new2 wc (.map #[] 0) (.cells #[.int .i64 r, .int .i64 n, .int .i64 first, .map (some wc.heap.size)] 105)
    have hmN := (map_made wc Tryz.prog 3).alloc (.cells #[.int .i64 r, .int .i64 n, .int .i64 first, .map (some wc.heap.size)] 105)
    obtain ⟨w3, hw3⟩ : ∃ w3, w3 = (wc.alloc (.map #[] 0)).alloc (.cells #[.int .i64 r, .int .i64 n, .int .i64 first, .map (some wc.heap.size)] 105) := ⟨_, rfl⟩
    rw [← hw3] at hN hbN hmN
    have hszc := HBW.out.size
    have hA3 : Fill w3 w.heap.size (wc.heap.size + 1) wc.heap.size r n first [] := by
      refine ⟨[], ⟨hN.2.1, ?_, ⟨by omega, by omega⟩, List.Pairwise.nil, ⟨hf1, hf2⟩, by simp, by simp, by simp⟩, rfl⟩
      have e : accd.look ([] : List Vt) = fun _ => none := by funext x; cases x <;> first | rfl | (rename_i k _; cases k <;> rfl)
      rw [e]
      exact hmN
    have HA3 := Lib.hid hA3
    have HB3 := Lib.hid (below_step HBW.out hbN)
    have HN3 := Lib.hid (hp_step HNC.out hbN)
    have HW3 := Lib.hid hw3
    have hsz3 := hbN.size
    clear hnc hN hbN hmN hA3 hw3 hrn
    go_wp2_with fail
    rw [← HW3.out]
    obtain ⟨b, hbd⟩ : ∃ b, b = wc.heap.size + 1 := ⟨_, rfl⟩
    obtain ⟨mb, hmd⟩ : ∃ mb, mb = wc.heap.size := ⟨_, rfl⟩
    rw [← hbd, ← hmd] at HA3
    rw [← hbd]
    have hbb : w.heap.size ≤ b := by omega
    have hmb : w.heap.size ≤ mb := by omega
    obtain ⟨pb, hpb⟩ : ∃ pb, pb = w.heap.size := ⟨_, rfl⟩
    rw [← hpb] at HN3 ⊢
    have HPB := Lib.hid hpb
    clear hbd hmd q0 q1 qz HNC HN1 HBC HB1 HBW hsz3 hszc hpb
    go_loopw [9, 36] (fun q i wr => ∃ k : Nat, k ≤ vs.length ∧ i = .int .i64 k ∧ q = .int .i64 (lst first (vs.map lv) k) ∧ Hid (Fill wr w.heap.size b mb r n first ((vs.map lv).take k)) ∧ Hid (Below w.heap.size w wr) ∧ Hid (wr.heap[pb]? = some (.cells #[.int .i64 r, .int .i64 n] 28 (0, 0))) ∧ Hid (∀ j (hj : j < (vs.map lv).length), j < k → goodV r n first (lst first (vs.map lv) j) (vs.map lv)[j])) (fun _ i _ => vs.length - (intOf i).toNat)
    case atStart => exact ⟨0, Nat.zero_le _, rfl, rfl, HA3, HB3, HN3, fun j _ h => by omega⟩
    case round =>
      obtain ⟨k, hk, rfl, rfl, HF, HB, HNR, HG⟩ := hrel
      by_cases hlt : k < vs.length
      · have hkm : k < (vs.map lv).length := by rw [List.length_map]; exact hlt
        have hsl := HSL.out _ (List.getElem_mem hlt)
        have hrd := (HRW.out wr HB.out).rd _ (List.getElem_mem hlt)
        obtain ⟨g, c9, e9, hgz, hcap9, x0, x1, x2, x3⟩ := (HRW.out wr HB.out).cells hlt
        simp only [Value.slice.injEq, true_and] at e9
        obtain ⟨rfl, rfl⟩ := e9
        have hcap2 : vs.length ≤ 9223372036854775807 := by unfold maxLen at hcap9; omega
        have hgm : (vs.map lv)[k] = lv vs[k] := by simp
        have hls := lst_succ first (vs.map lv) k hkm
        have hab := lst_above k (by omega) (fun j hj h => HG.out j hj h)
        have hfr := lst_from k (by omega) (fun j hj h => HG.out j hj h)
        rw [hgm] at hls
        have hbad : ¬ goodV r n first (lst first (vs.map lv) k) (lv vs[k]) → ¬ okL r n first (vs.map lv) := by
          intro h hok
          have := hok.2 k hkm
          rw [hgm] at this
          exact h this
        have hgood : goodV r n first (lst first (vs.map lv) k) (lv vs[k]) → ∀ j (hj : j < (vs.map lv).length), j < k + 1 → goodV r n first (lst first (vs.map lv) j) (vs.map lv)[j] := by
          intro h j hj hjk
          by_cases e : j = k
          · subst e; rw [hgm]; exact h
          · exact HG.out j hj (by omega)
        have htk : (vs.map lv).take (k + 1) = (vs.map lv).take k ++ [lv vs[k]] := by rw [List.take_succ_eq_append_getElem hkm, hgm]
        have hlow : ∀ y ∈ (vs.map lv).take k, y.s < lst first (vs.map lv) k := by
          intro y hy
          obtain ⟨j, hj, rfl⟩ := List.mem_take_iff_getElem.1 hy
          exact hab j (by omega) (by omega)
        obtain ⟨v, hv⟩ : ∃ v, v = vs[k] := ⟨_, rfl⟩
        rw [← hv] at hsl hrd x0 x1 x2 x3 hls hbad hgood htk
        obtain ⟨q, hq⟩ : ∃ q, q = lst first (vs.map lv) k := ⟨_, rfl⟩
        rw [← hq] at hbad hgood hlow hfr
        rw [← hq]
        have HSLV := Lib.hid hsl
        have HBAD := Lib.hid hbad
        have HGOOD := Lib.hid hgood
        have HTK := Lib.hid htk
        have HLOW := Lib.hid hlow
        have HLS := Lib.hid hls
        have HFR := Lib.hid hfr
        obtain ⟨w5, hw5⟩ : ∃ w5, w5 = wr.alloc (.cells #[.int .i64 v.s, .int .i64 v.r, .int .i64 v.n, .slice v.a v.l.length v.c] 45) := ⟨_, rfl⟩
        have hn5 : w5.heap[wr.heap.size]? = some (.cells #[.int .i64 v.s, .int .i64 v.r, .int .i64 v.n, .slice v.a v.l.length v.c] 45 (0, 0)) := by rw [hw5]; exact hp_alloc_new _ _
        have hb5 : Below wr.heap.size wr w5 := by rw [hw5]; exact below_new1 _ _
        have HB5 := Lib.hid (below_step HB.out hb5)
        have HN5 := Lib.hid hn5
        have HNP := Lib.hid (hp_step HNR.out hb5)
        have HF5 : Hid (Fill w5 w.heap.size b mb r n first ((vs.map lv).take k)) := by
          obtain ⟨xs, h1, h2⟩ := HF.out
          exact ⟨xs, h1.below hb5, h2⟩
        have HRD5 := Lib.hid (hrd.below hb5)
        have HW5 := Lib.hid hw5
        obtain ⟨nb, hnb⟩ : ∃ nb, nb = wr.heap.size := ⟨_, rfl⟩
        rw [← hnb] at HN5
        have HNB := Lib.hid hnb
        have hnbp : pb < nb := by have := (kit.blk HNR.out).2.2; omega
        obtain ⟨y0, y1, y2, y3, yz⟩ := blk4 HN5.out
        obtain ⟨p0, p1, -, -, pz⟩ := blk2 HNP.out
        have hwr : IntKind.i64.wrap (first + 16) = first + 16 := IntWalk.i64_in _ (by omega)
        clear hsl hrd hcap9 hgm hls hab hfr hbad hgood htk hlow hv hq hn5 hb5 hw5 hnb HF HNR HG
        go_upto_region 8 with fail
        rw [← HW5.out, ← HNB.out]
        clear HW5 HNB x0 x1 x2 x3
        by_cases c1 : v.s < q
        · have t3 : decide (v.s < q) = true := decide_eq_true c1
          go_wp2_with fail
          exact bodyPost_ret (v := .tuple #[.pointer none, .int .i64 21]) (by simp [results, Tryz.results31, go_sem]) rfl ⟨HB5.out, .inr ⟨HBAD.out (fun h => by have := h.1; simp only [lv] at this; omega), rfl⟩⟩
        have t3 : decide (v.s < q) = false := decide_eq_false c1
        by_cases c2 : first + 16 ≤ v.s
        · have t4 : decide (first + 16 ≤ v.s) = true := decide_eq_true c2
          go_wp2_with fail
          exact bodyPost_ret (v := .tuple #[.pointer none, .int .i64 21]) (by simp [results, Tryz.results31, go_sem]) rfl ⟨HB5.out, .inr ⟨HBAD.out (fun h => by have := h.2.1; simp only [lv] at this; omega), rfl⟩⟩
        have t4 : decide (first + 16 ≤ v.s) = false := decide_eq_false c2
        have HRE := Lib.hid (real_any v.r v.n w5)
        by_cases c3 : realB v.r v.n = false
        · rw [c3] at HRE
          have HC3 := Lib.hid c3
          clear c3
          go_wp2_with fail
          refine HRE.out.mono ?_; rintro e w6 ⟨rfl, hb6⟩
          have HB6 := Lib.hid (below_step HB5.out hb6)
          clear hb6 HRE
          go_wp2_with fail
          exact bodyPost_ret (v := .tuple #[.pointer none, .int .i64 21]) (by simp [results, Tryz.results31, go_sem]) rfl ⟨HB6.out, .inr ⟨HBAD.out (fun h => by have := h.2.2.1; simp only [lv] at this; rw [HC3.out] at this; simp at this), rfl⟩⟩
        have c3' : realB v.r v.n = true := by simpa using c3
        rw [c3'] at HRE
        have HC3 := Lib.hid c3'
        clear c3 c3'
        go_wp2_with fail
        refine HRE.out.mono ?_; rintro e w6 ⟨rfl, hb6⟩
        have HB6 := Lib.hid (below_step HB5.out hb6)
        have HN6 := Lib.hid (hp_step HN5.out hb6)
        have HNP6 := Lib.hid (hp_step HNP.out hb6)
        have HF6 : Hid (Fill w6 w.heap.size b mb r n first ((vs.map lv).take k)) := by
          obtain ⟨xs, h1, h2⟩ := HF5.out
          exact ⟨xs, h1.below hb6, h2⟩
        have HRD6 := Lib.hid (HRD5.out.below hb6)
        have hb56 := Lib.hid hb6
        clear hb6 HRE y0 y1 y2 y3 yz p0 p1 pz
        obtain ⟨y0, y1, y2, y3, yz⟩ := blk4 HN6.out
        obtain ⟨p0, p1, -, -, pz⟩ := blk2 HNP6.out
        have HLE := Lib.hid (less_any r n v.r v.n w6)
        by_cases c4 : lessB r n v.r v.n = true
        · rw [c4] at HLE
          have HC4 := Lib.hid c4
          clear c4
          go_wp2_with fail
          refine HLE.out.mono ?_; rintro e w7 ⟨rfl, hb7⟩
          have HB7 := Lib.hid (below_step HB6.out hb7)
          clear hb7 HLE
          go_wp2_with fail
          exact bodyPost_ret (v := .tuple #[.pointer none, .int .i64 21]) (by simp [results, Tryz.results31, go_sem]) rfl ⟨HB7.out, .inr ⟨HBAD.out (fun h => by have := h.2.2.2.1; simp only [lv] at this; rw [HC4.out] at this; simp at this), rfl⟩⟩
        have c4' : lessB r n v.r v.n = false := by simpa using c4
        rw [c4'] at HLE
        have HC4 := Lib.hid c4'
        clear c4 c4'
        go_wp2_with fail
        refine HLE.out.mono ?_; rintro e w7 ⟨rfl, hb7⟩
        have HB7 := Lib.hid (below_step HB6.out hb7)
        have HN7 := Lib.hid (hp_step HN6.out hb7)
        have HNP7 := Lib.hid (hp_step HNP6.out hb7)
        have HRD7 := Lib.hid (HRD6.out.below hb7)
        obtain ⟨xs, hx1, hx2⟩ := HF6.out
        have HA7 := Lib.hid (hx1.below hb7)
        have HX2 := Lib.hid hx2
        have hne1 : nb ≠ b := by
          intro e
          have h := hx1.blk
          rw [← e, HN6.out] at h
          simp at h
        have hne2 : nb ≠ mb := by
          intro e
          obtain ⟨es, cl, hm⟩ := hx1.map.obj
          rw [← e, HN6.out] at hm
          simp at hm
        have hne3 : pb ≠ b := by
          intro e
          have h := hx1.blk
          rw [← e, HNP6.out] at h
          simp at h
        have hne4 : pb ≠ mb := by
          intro e
          obtain ⟨es, cl, hm⟩ := hx1.map.obj
          rw [← e, HNP6.out] at hm
          simp at hm
        clear hb7 HLE y0 y1 y2 y3 yz p0 p1 pz hx1 hx2
        obtain ⟨y0, y1, y2, y3, yz⟩ := blk4 HN7.out
        by_cases c5 : 2048 < v.l.length
        · have t5 : decide ((2048 : Int) < (v.l.length : Int)) = true := decide_eq_true (by omega)
          have t5' : (2048 : Int) < (v.l.length : Int) := by omega
          go_wp2_with fail
          exact bodyPost_ret (v := .tuple #[.pointer none, .int .i64 21]) (by simp [results, Tryz.results31, go_sem]) rfl ⟨HB7.out, .inr ⟨HBAD.out (fun h => by have := h.2.2.2.2; simp only [lv] at this; omega), rfl⟩⟩
        have t5 : decide ((2048 : Int) < (v.l.length : Int)) = false := decide_eq_false (by omega)
        have t5' : ¬ (2048 : Int) < (v.l.length : Int) := by omega
        have hlen : v.l.length ≤ 2048 := by omega
        have HGD := Lib.hid (HGOOD.out ⟨(by simp only [lv]; omega), (by simp only [lv]; omega), HC3.out, HC4.out, hlen⟩)
        have hbw7 := HB7.out.size
        have hbd : Below w7.heap.size w7 w7.drew := below_drewN (Below.refl _ w7) 1
        have HCP := Lib.hid (copied_b w7.drew v (HRD7.out.below hbd))
        have HBD := Lib.hid hbd
        obtain ⟨hs1, hs2⟩ := HSLV.out
        have hfr1 := HFR.out.1
        have hrg : first ≤ v.s ∧ v.s < first + 16 := ⟨by omega, by omega⟩
        have HLW2 : Hid (∀ y ∈ (vs.map lv).take k, y.s < v.s) := fun y hy => by have := HLOW.out y hy; omega
        obtain ⟨x0, x1, x2, x3, xz⟩ := blk4 HA7.out.blk
        have hsum : IntKind.i64.wrap (v.s + 1) = v.s + 1 := IntWalk.i64_in _ (by omega)
        clear c1 c2 c5 hbd t3 t4
        go_wp2_with fail
        go_region_held3 (fun w' => w'.cell? ⟨b, 3, none⟩ = some (.map (some mb)) ∧ w'.cell? ⟨nb, 0, none⟩ = some (.int .i64 v.s) ∧ w'.cell? ⟨nb, 1, none⟩ = some (.int .i64 v.r) ∧ w'.cell? ⟨nb, 2, none⟩ = some (.int .i64 v.n) ∧ w'.cell? ⟨nb, 3, none⟩ = some (.slice v.a v.l.length v.c)) (first | (exact ⟨x3, y0, y1, y2, y3⟩) | (exact ⟨z3, u0, u1, u2, u3⟩) | (exact ⟨s3, q0, q1, q2, q3⟩)) (first | (go_at_call 52; refine HCP.out.mono ?_; rintro e w8 ⟨a8, c8, rfl, hbd8, hb8⟩; have hb78 := below_step HBD.out hb8; have hA8 := HA7.out.below hb78; obtain ⟨z0, z1, z2, z3, zz⟩ := blk4 hA8.blk; have hn8 := hp_step HN7.out hb78; obtain ⟨u0, u1, u2, u3, uz⟩ := blk4 hn8; obtain ⟨w9, hup, hm9, hg9⟩ := votes_store hA8.map hA8.ord hA8.len ⟨v.s, v.r, v.n, v.l, a8, c8⟩ hs1 hs2; obtain ⟨hA9, hk89⟩ := acc_store hA8 ⟨v.s, v.r, v.n, v.l, a8, c8⟩ hm9 hg9 (own_mono hbd8 hbw7) hlen hrg; obtain ⟨s0, s1, s2, s3, sz⟩ := blk4 hA9.blk; have hn9 := (hg9.block nb uz (fun e => by have := Option.some.inj e; omega)).trans hn8; have hnp9 := (hg9.block pb (kit.blk (hp_step HNP7.out hb78)).2.2 (fun e => by have := Option.some.inj e; omega)).trans (hp_step HNP7.out hb78); obtain ⟨q0, q1, q2, q3, qz⟩ := blk4 hn9; have HA9 := Lib.hid hA9; have HNP9 := Lib.hid hnp9; have HB9 := Lib.hid ((below_step HB7.out hb78).trans (keep_below hk89 (below_step HB7.out hb78).size hbb hmb)); simp only [Vt.val] at hup; clear hbd8 hb8 hb78 hA8 hn8 hm9 hg9 hA9 hk89 hn9 hnp9))
        have HFI : Hid (Fill w9 w.heap.size b mb r n first ((vs.map lv).take (k + 1))) := by
          refine ⟨_, HA9.out, ?_⟩
          rw [put_lv, HX2.out, put4_end (fun y hy => HLW2.out y hy), HTK.out]
          rfl
        go_wp2_with fail
        go_roundw
        case rel => exact ⟨k + 1, by omega, by go_num, by rw [HLS.out]; go_num, HFI, HB9, HNP9, HGD⟩
        case measure => simp [intOf]; omega
      · obtain rfl : k = vs.length := by omega
        have HOK := Lib.hid (show okL r n first (vs.map lv) from ⟨HH.out, fun j hj => HG.out j hj (by rw [List.length_map] at hj; exact hj)⟩)
        have HFE : Hid (AccIs wr w.heap.size b mb ⟨r, n, first, vs.map lv⟩) := by
          obtain ⟨xs, h1, h2⟩ := HF.out
          rw [List.take_of_length_le (by rw [List.length_map]; exact Nat.le_refl _)] at h2
          exact ⟨xs, h1, h2⟩
        go_wp2_with fail
        exact bodyPost_ret (v := .tuple #[.pointer (some ⟨b, 0, none⟩), .int .i64 0]) (by simp [results, Tryz.results31, go_sem]) rfl ⟨HB.out, .inl ⟨HOK.out, b, mb, rfl, hbb, hmb, HFE.out⟩⟩
end Go.Proofs.YtcaakiaenfkeaaaGreat.accm
/-
  Contracts of ballot.May and of the reference's May and Next.
-/
namespace Go.Proofs.YtcaakiaenfkeaaaGreat.bal
open Go.ChangeShapes Go.WideShapes Go.ChangeAt Go.RowKit
open Go.Proofs.YtcaakiaenfkeaaaGreat.kit
set_option linter.unusedVariables false
set_option linter.unusedSimpArgs false
set_option maxHeartbeats 1000000

def mayB (r n k : Int) : Bool := knownB k && decide (1 ≤ r) && decide (1 ≤ n) && decide (n ≤ k)

theorem may_any (r n k : Int) (w : World) :
    Calls Tryz.prog 30 #[.agg #[.int .i64 r, .int .i64 n], .int .i64 k] w
      fun e w' => e = .returned (.bool (mayB r n k)) ∧ Below w.heap.size w w' := by
  obtain ⟨x, hx⟩ : ∃ x, mayB r n k = x := ⟨_, rfl⟩
  have HX := Lib.hid hx
  rw [hx]
  unfold mayB at hx
  cases h1 : knownB k <;> cases h2 : decide (1 ≤ r) <;> cases h3 : decide (1 ≤ n) <;> cases h4 : decide (n ≤ k) <;> simp only [h1, h2, h3, h4, Bool.true_and, Bool.false_and, Bool.and_true, Bool.and_false] at hx <;> subst hx
  all_goals
    go_enter Tryz.func30, Tryz.ntmps30
    go_wp2_with (go_at_call 36; refine (known_any _ _).mono ?_; rintro e w' ⟨rfl, rfl⟩)
    go_ret
    exact ⟨rfl, below_new1 _ _⟩

end Go.Proofs.YtcaakiaenfkeaaaGreat.bal
/-
  load: what was saved is told to an acceptor.
-/
namespace Go.Proofs.YtcaakiaenfkeaaaGreat.pelo
open Go.ChangeShapes Go.WideShapes Go.ChangeAt Go.RowKit
open Go.Proofs.YtcaakiaenfkeaaaGreat.kit Go.Proofs.YtcaakiaenfkeaaaGreat.mapkit Go.Proofs.YtcaakiaenfkeaaaGreat.byt Go.Proofs.YtcaakiaenfkeaaaGreat.own Go.Proofs.YtcaakiaenfkeaaaGreat.accd Go.Proofs.YtcaakiaenfkeaaaGreat.accb Go.Proofs.YtcaakiaenfkeaaaGreat.acce Go.Proofs.YtcaakiaenfkeaaaGreat.chd Go.Proofs.YtcaakiaenfkeaaaGreat.che Go.Proofs.YtcaakiaenfkeaaaGreat.ownr Go.Proofs.YtcaakiaenfkeaaaGreat.pep Go.Proofs.YtcaakiaenfkeaaaGreat.peb Go.Proofs.YtcaakiaenfkeaaaGreat.pem Go.Proofs.YtcaakiaenfkeaaaGreat.pen Go.Proofs.YtcaakiaenfkeaaaGreat.pes
open Go.Proofs.YtcaakiaenfkeaaaGreat.bal (mayB knownB)
set_option linter.unusedVariables false
set_option linter.unusedSimpArgs false
set_option maxHeartbeats 4000000
set_option maxRecDepth 100000

/-- What was saved, as it lies. -/
structure SvM where
  p1 : Int
  p2 : Int
  vs : Sl Vt
  ix : Int
  im : Sl Nat
  en : Sl Et
def SvM.cells (S : SvM) : Array Value := #[.int .i64 S.p1, .int .i64 S.p2, .slice S.vs.a S.vs.l.length S.vs.c, .int .i64 S.ix, .slice S.im.a S.im.l.length S.im.c, .slice S.en.a S.en.l.length S.en.c]
def SvM.val (S : SvM) : Value := .agg #[.int .i64 S.p1, .int .i64 S.p2, .slice S.vs.a S.vs.l.length S.vs.c, .int .i64 S.ix, .slice S.im.a S.im.l.length S.im.c, .slice S.en.a S.en.l.length S.en.c]
structure OkS (node nodes : Int) (S : SvM) : Prop where
  nod : nodes = 1 ∨ nodes = 3 ∨ nodes = 5
  nd : 1 ≤ node ∧ node ≤ nodes
  pr : (S.p1 = 0 ∧ S.p2 = 0) ∨ mayB S.p1 S.p2 nodes = true
  ix : 0 ≤ S.ix ∧ S.ix ≤ 1099511627776
  im0 : S.ix = 0 → S.im.l.length = 0
  im1 : S.im.l.length ≤ 8192
  len : S.en.l.length ≤ 1000000000
  ent : ∀ k (hk : k < S.en.l.length), (S.en.l[k]).s = S.ix + 1 + k ∧ (S.en.l[k]).s ≤ 1099511627776 ∧ (S.en.l[k]).l.length ≤ 2048
  acc : accm.okL S.p1 S.p2 (S.ix + S.en.l.length + 1) (S.vs.l.map lv)
structure RdS (w : World) (S : SvM) : Prop where
  vs : acci.RowV w (.slice S.vs.a S.vs.l.length S.vs.c) S.vs.l
  sl : ∀ v ∈ S.vs.l, -9223372036854775808 ≤ v.s ∧ v.s ≤ 9223372036854775807
  en : RowE w S.en.a S.en.l
  eb : ∀ e ∈ S.en.l, RoB w ⟨e.a, e.c, e.l⟩
  im : RoB w S.im
theorem RdS.below {w w' : World} {S : SvM} (h : RdS w S) (hb : Below w.heap.size w w') : RdS w' S := ⟨h.vs.below hb, h.sl, h.en.below hb, fun e he => (h.eb e he).below hb, h.im.below hb⟩
theorem accis_mono {w : World} {base base' b mb : Nat} {A : AS} (h : AccIs w base b mb A) (hb : base' ≤ base) : AccIs w base' b mb A := by
  obtain ⟨vs, h, e⟩ := h
  exact ⟨vs, ⟨h.blk, h.map, ⟨Nat.le_trans hb h.lo.1, Nat.le_trans hb h.lo.2⟩, h.ord, h.one, h.rng, h.fit, fun v hv => own_mono (h.bodies v hv) hb⟩, e⟩
theorem load_arg (w : World) (node nodes : Int) (S : SvM) (h : ¬ ((nodes = 1 ∨ nodes = 3 ∨ nodes = 5) ∧ 1 ≤ node ∧ node ≤ nodes)) :
    Calls Tryz.prog 13 #[.int .i64 node, .int .i64 nodes, S.val] w fun e w' => e = .returned (.tuple #[.pointer none, .int .i64 1]) ∧ Below w.heap.size w w' := by
  simp only [SvM.val]
  by_cases h1 : nodes = 1 ∨ nodes = 3 ∨ nodes = 5
  · have h2 : ¬ (1 ≤ node ∧ node ≤ nodes) := fun hh => h ⟨h1, hh⟩
    clear h
    by_cases h3 : node < 1
    · clear h2
      have d1 : decide (node < 1) = true := decide_eq_true h3
      rcases h1 with rfl | rfl | rfl
      all_goals
        go_enter Tryz.func13, Tryz.ntmps13
        go_wp2_with fail
        exact bodyPost_ret (v := .tuple #[.pointer none, .int .i64 1]) (by simp [results, Tryz.results13, go_sem]) rfl ⟨rfl, below_new1 _ _⟩
    · have h4 : nodes < node := by omega
      have d1 : decide (node < 1) = false := decide_eq_false h3
      have d2 : decide (nodes < node) = true := decide_eq_true h4
      clear h2
      rcases h1 with rfl | rfl | rfl
      all_goals
        go_enter Tryz.func13, Tryz.ntmps13
        go_wp2_with fail
        exact bodyPost_ret (v := .tuple #[.pointer none, .int .i64 1]) (by simp [results, Tryz.results13, go_sem]) rfl ⟨rfl, below_new1 _ _⟩
  · have e1 : (nodes != 1) = true := by simp; omega
    have e2 : (nodes != 3) = true := by simp; omega
    have e3 : (nodes != 5) = true := by simp; omega
    clear h h1
    go_enter Tryz.func13, Tryz.ntmps13
    go_wp2_with fail
    exact bodyPost_ret (v := .tuple #[.pointer none, .int .i64 1]) (by simp [results, Tryz.results13, go_sem]) rfl ⟨rfl, below_new1 _ _⟩
theorem load_ok (w : World) (node nodes : Int) (S : SvM) (hr : RdS w S) (hs : OkS node nodes S) :
    Calls Tryz.prog 13 #[.int .i64 node, .int .i64 nodes, S.val] w fun e w' => Below w.heap.size w w' ∧ ∃ b mb, e = .returned (.tuple #[.pointer (some ⟨b, 0, none⟩), .int .i64 0]) ∧ w.heap.size ≤ b ∧ w.heap.size ≤ mb ∧ AccIs w' w.heap.size b mb ⟨S.p1, S.p2, S.ix + S.en.l.length + 1, S.vs.l.map lv⟩ := by
  obtain ⟨p1, p2, vs, ix, im, en⟩ := S
  obtain ⟨va, vc, vl⟩ := vs
  obtain ⟨ia, ic, il⟩ := im
  obtain ⟨ea, ec, el⟩ := en
  obtain ⟨⟨h1, h2, h3, h4, h5, h6, h7, h8, h9⟩, hr⟩ := And.intro hs hr
  dsimp only at h1 h2 h3 h4 h5 h6 h7 h8 h9 ⊢
  obtain ⟨ni, hni⟩ : ∃ ni, ni = il.length := ⟨_, rfl⟩
  obtain ⟨ne, hne⟩ : ∃ ne, ne = el.length := ⟨_, rfl⟩
  obtain ⟨nv, hnv⟩ : ∃ nv, nv = vl.length := ⟨_, rfl⟩
  obtain ⟨w1, hw1⟩ : ∃ w1 : World, w1 = w.alloc (.cells #[.int .i64 p1, .int .i64 p2, .slice va nv vc, .int .i64 ix, .slice ia ni ic, .slice ea ne ec] 33) := ⟨_, rfl⟩
  have hb1 : Below w.heap.size w w1 := by rw [hw1]; exact below_new1 _ _
  have hn1 : w1.heap[w.heap.size]? = some (.cells #[.int .i64 p1, .int .i64 p2, .slice va nv vc, .int .i64 ix, .slice ia ni ic, .slice ea ne ec] 33 (0, 0)) := by rw [hw1]; exact hp_alloc_new _ _
  obtain ⟨sb, hsb⟩ : ∃ sb, sb = w.heap.size := ⟨_, rfl⟩
  rw [← hsb] at hn1
  have HX : Hid (∀ W, Below w1.heap.size w1 W → W.cell? ⟨sb, 0, none⟩ = some (.int .i64 p1) ∧ W.cell? ⟨sb, 1, none⟩ = some (.int .i64 p2) ∧ W.cell? ⟨sb, 2, none⟩ = some (.slice va nv vc) ∧ W.cell? ⟨sb, 3, none⟩ = some (.int .i64 ix) ∧ W.cell? ⟨sb, 4, none⟩ = some (.slice ia ni ic) ∧ W.cell? ⟨sb, 5, none⟩ = some (.slice ea ne ec) ∧ sb < W.heap.size) := by
    intro W hb
    have hh := hp_step hn1 hb
    have hc := (kit.blk hh).1
    exact ⟨hc 0, hc 1, hc 2, hc 3, hc 4, hc 5, (kit.blk hh).2.2⟩
  have HR1 := Lib.hid (RdS.below hr hb1)
  have HB1 := Lib.hid hb1
  have HW1 := Lib.hid hw1
  have HSB := Lib.hid hsb
  have HNI := Lib.hid hni
  have HNE := Lib.hid hne
  have HNV := Lib.hid hnv
  have H8 := Lib.hid h8
  have H9 := Lib.hid h9
  have H3 := Lib.hid h3
  simp only [SvM.val]
  rw [← hni, ← hne, ← hnv]
  rw [← hni] at h5 h6
  rw [← hne] at h7
  obtain ⟨x0, x1, x2, x3, x4, x5, xz⟩ := HX.out w1 (Below.refl _ w1)
  have hbn := fun w => chc.neBallotZ w p1 p2
  clear hr hb1 hn1 hw1 hsb hni hne hnv h8 h9 h3 hs
  go_enter Tryz.func13, Tryz.ntmps13
  go_upto_region 1 with fail
  rw [← HW1.out, ← HSB.out]
  go_cut [30] from 12 to 30 (fun t wx => t = .bool false ∧ wx = w1)
  case first =>
    have k1 : ¬ node < 1 := by omega
    rcases h1 with rfl | rfl | rfl
    all_goals
      have k2 : ¬ _ < node := Int.not_lt.2 h2.2
      go_wp2_with fail
      go_meet
      case rel => exact ⟨rfl, rfl⟩
  case rest =>
    obtain ⟨rfl, hwc⟩ := hcut
    have hwc2 := hwc.symm
    subst hwc2
    go_upto_region 3 with fail
    go_cut [68] from 31 to 68 (fun t wx => t = .bool false ∧ Hid (Below w1.heap.size w1 wx))
    case first =>
      have k1 : ¬ ix < 0 := by omega
      have k2 : ¬ (1099511627776 : Int) < ix := by omega
      have k3 : ¬ (8192 : Int) < (ni : Int) := by omega
      have d1 : decide (ix < 0) = false := decide_eq_false k1
      have d2 : decide ((1099511627776 : Int) < ix) = false := decide_eq_false k2
      have d3 : decide ((8192 : Int) < (ni : Int)) = false := decide_eq_false k3
      by_cases hz : p1 = 0 ∧ p2 = 0
      · obtain ⟨rfl, rfl⟩ := hz
        have e0 : ((0 : Int) == 0 && (0 : Int) == 0) = true := rfl
        rw [e0] at hbn
        by_cases hi : ix = 0
        · have hi0 := h5 hi
          subst hi hi0
          go_wp2_with fail
          go_meet
          case rel => exact ⟨rfl, Below.refl _ _⟩
        · have k4 : (ix == 0) = false := by simpa using hi
          go_wp2_with fail
          go_meet
          case rel => exact ⟨rfl, Below.refl _ _⟩
      · have hm := H3.out.resolve_left hz
        have e0 : (p1 == 0 && p2 == 0) = false := by
          simp only [Bool.and_eq_false_iff, beq_eq_false_iff_ne]
          by_cases hp : p1 = 0
          · exact .inr (fun hq => hz ⟨hp, hq⟩)
          · exact .inl hp
        rw [e0] at hbn
        have HMA := Lib.hid (bal.may_any p1 p2 nodes w1)
        rw [hm] at HMA
        clear hm e0 hz
        by_cases hi : ix = 0
        · have hi0 := h5 hi
          subst hi hi0
          go_wp2_with (go_at_call 30; refine HMA.out.mono ?_; rintro e w2 ⟨rfl, hb2⟩; have HB2 := Lib.hid hb2; obtain ⟨y0, y1, y2, y3, y4, y5, yz⟩ := HX.out w2 hb2; clear hb2)
          go_meet
          case rel => exact ⟨rfl, HB2⟩
        · have k4 : (ix == 0) = false := by simpa using hi
          go_wp2_with (go_at_call 30; refine HMA.out.mono ?_; rintro e w2 ⟨rfl, hb2⟩; have HB2 := Lib.hid hb2; obtain ⟨y0, y1, y2, y3, y4, y5, yz⟩ := HX.out w2 hb2; clear hb2)
          go_meet
          case rel => exact ⟨rfl, HB2⟩
    case rest =>
      obtain ⟨rfl, HB2⟩ := hcut
      obtain ⟨y0, y1, y2, y3, y4, y5, yz⟩ := HX.out wc HB2.out
      clear x0 x1 x2 x3 x4 x5 xz
      go_wp2_with fail
      go_loopw [72] (fun t wr => ∃ k : Nat, k ≤ ne ∧ t = .int .i64 k ∧ Hid (Below w1.heap.size w1 wr)) (fun t _ => ne - (RowKit.intOf t).toNat)
      case atStart => exact ⟨0, Nat.zero_le _, rfl, HB2⟩
      case round =>
        obtain ⟨k, hk, rfl, HB3⟩ := hrel
        obtain ⟨z0, z1, z2, z3, z4, z5, zz⟩ := HX.out wr HB3.out
        by_cases hlt : k < ne
        · have hki : (k : Int) < (ne : Int) := by omega
          have hkl : k < el.length := by rw [← HNE.out]; exact hlt
          obtain ⟨g, off, rfl, hgz, g0, g1⟩ := (HR1.out.below HB3.out).en.cells k hkl
          dsimp only at g0 g1 hgz
          obtain ⟨c1, c2, c3⟩ := H8.out k hkl
          rw [c1] at g0 c2
          obtain ⟨xa, hxa⟩ : ∃ xa, xa = el[k].a := ⟨_, rfl⟩
          obtain ⟨xc, hxc⟩ : ∃ xc, xc = el[k].c := ⟨_, rfl⟩
          obtain ⟨xn, hxn⟩ : ∃ xn, xn = el[k].l.length := ⟨_, rfl⟩
          rw [← hxa, ← hxc, ← hxn] at g1
          rw [← hxn] at c3
          have hw1 : IntKind.i64.wrap (ix + 1) = ix + 1 := IntWalk.i64_in _ (by omega)
          have hw2 : IntKind.i64.wrap (ix + 1 + (k : Int)) = ix + 1 + k := IntWalk.i64_in _ (by omega)
          have hw9 : IntKind.i64.wrap ((k : Int) + 1) = (k : Int) + 1 := IntWalk.i64_in _ (by omega)
          have d1 : ¬ (1099511627776 : Int) < ix + 1 + (k : Int) := by omega
          have d2 : ¬ (2048 : Int) < (xn : Int) := by omega
          have d3 : (ix + 1 + (k : Int) != ix + 1 + (k : Int)) = false := by simp
          have d4 : decide ((1099511627776 : Int) < ix + 1 + (k : Int)) = false := decide_eq_false d1
          have d5 : decide ((2048 : Int) < (xn : Int)) = false := decide_eq_false d2
          have z3' : ∀ o : Obj, (wr.alloc o).cell? ⟨sb, 3, none⟩ = some (.int .i64 ix) := fun o => cell_step z3 (below_new1 _ o)
          have HB4 := Lib.hid (below_step HB3.out (below_new1 wr (.cells #[.int .i64 (ix + 1 + (k : Int)), .slice xa xn xc] 47)))
          clear hxa hxc hxn c1
          go_wp2_with fail
          go_roundw
          case rel => exact ⟨k + 1, by omega, by go_num, HB4⟩
          case measure => simp [RowKit.intOf]; omega
        · obtain rfl : k = ne := by omega
          have hle : ¬ (k : Int) < (k : Int) := by omega
          have hw1 : IntKind.i64.wrap (ix + (k : Int)) = ix + k := IntWalk.i64_in _ (by omega)
          have hw2 : IntKind.i64.wrap (ix + (k : Int) + 1) = ix + k + 1 := IntWalk.i64_in _ (by omega)
          have h9 := H9.out
          rw [← HNE.out] at h9
          have hR3 := (HR1.out.below HB3.out)
          have HLO := Lib.hid (accm.load_yes wr p1 p2 (ix + (k : Int) + 1) va vc vl hR3.vs h9.1 hR3.sl)
          rw [← HNV.out] at HLO
          have H99 := Lib.hid h9
          clear h9 hR3
          go_wp2_with (go_at_call 31; refine HLO.out.mono ?_; rintro e w5 ⟨hb5, (⟨-, b, mb, rfl, hbz, hmz, hacc⟩ | ⟨hno, -⟩)⟩ <;> first | exact absurd H99.out hno | skip)
          have hs := (below_step HB1.out HB3.out).size
          exact bodyPost_ret (v := .tuple #[.pointer (some ⟨b, 0, none⟩), .int .i64 0]) (by simp [results, Tryz.results13, go_sem]) rfl ⟨below_step (below_step HB1.out HB3.out) hb5, b, mb, rfl, Nat.le_trans hs hbz, Nat.le_trans hs hmz, accis_mono hacc hs⟩
end Go.Proofs.YtcaakiaenfkeaaaGreat.pelo
