/-
  Pieces that came in: how a law's argument []api.Piece is opened; Put of any piece.
-/
import Derived.Test.YtgpkenbefolegaaDoorClear
import Derived.Test.YtgpkenbefolegaaDoorLaid
namespace Go.Proofs.YtgpkenbefolegaaDoor.box
open Go.ChangeShapes Go.WideShapes Go.ChangeAt Go.RowKit Go.Joins
open Go.Maps
open Go.Proofs.YtgpkenbefolegaaDoor.kit Go.Proofs.YtgpkenbefolegaaDoor.mapkit Go.Proofs.YtgpkenbefolegaaDoor.byt Go.Proofs.YtgpkenbefolegaaDoor.sum Go.Proofs.YtgpkenbefolegaaDoor.cut Go.Proofs.YtgpkenbefolegaaDoor.laid
set_option linter.unusedVariables false
set_option linter.unusedSimpArgs false
set_option maxHeartbeats 1000000
set_option maxRecDepth 100000

/-- What is known of a piece that came in. -/
structure GoodP (w : World) (p : PieceV) : Prop where
  lie : Lie w p.addr (bcells p.data)
  byt : Byt p.data
  sum : p.sum < 4294967296
  nil : p.addr = none → p.data.length = 0 ∧ p.cap = 0
  cap : p.data.length ≤ p.cap
  len : p.cap ≤ maxLen
  tot : p.tot ≤ 9223372036854775807
theorem GoodP.below {w w' : World} {p : PieceV} (h : GoodP w p) (hb : Below w.heap.size w w') : GoodP w' p :=
  ⟨h.lie.below hb, h.byt, h.sum, h.nil, h.cap, h.len, h.tot⟩
theorem GoodP.keep {S : Nat → Prop} {w w' : World} {p : PieceV} (h : GoodP w p) (hb : Keep S w w') (hS : ∀ k, S k → ∀ o x, w.cell? ⟨k, o, none⟩ ≠ some (.int .u8 x)) : GoodP w' p :=
  ⟨lie_keep h.lie hb hS, h.byt, h.sum, h.nil, h.cap, h.len, h.tot⟩

theorem put_any (p : PieceV) (w : World) (base b m : Nat) (V : BoxV) (h : BoxAt w base b m V) (hbase : base ≤ w.heap.size) (hp : GoodP w p) :
    Calls Tryd.prog 17 #[.pointer (some ⟨b, 0, none⟩), pval p] w (PutsIn base b m V p w) := by
  by_cases hm : mayP p = true
  · exact put_else p w base b m V h hbase hm hp.sum hp.byt hp.lie hp.nil
  · exact put_may p w base b m V h (by simpa using hm) (by have := hp.cap; have := hp.len; unfold maxLen at this; omega) hp.tot

section
variable {H : Type} {enc : TypeId × Value → H} {P : Program}
/-- A slice of integers, whatever its place. -/
theorem elem_ints {W : World} {t e : TypeId} {k : IntKind} {v : Value} {n : Nat} {y : DataW H × List MemPlace}
    (hs : P.underlying t = some (.slice e)) (he : P.underlying e = some (.int k)) (hC : P.cellsOf e = 1)
    (hf : DataW.trod enc P W 0 (fun _ => true) true n t [v] = some y) :
    ∃ (a : Option Addr) (l : List Int) (cap : Nat), v = .slice a l.length cap ∧ l.length ≤ cap ∧ cap ≤ maxLen ∧ (a = none → l.length = 0 ∧ cap = 0) ∧ Lie W a (l.map (Value.int k)) ∧ (∀ n ∈ l, (Lit.int k n).wf = true) ∧
      (y.1 = .nil ∧ l = [] ∨ ∃ sp, y.1 = .slice (l.map fun n => .lit (.int k n)) sp ∧ l.length + sp.length = cap) := by
  rcases open_ints hs he hC hf with ⟨hcs, hx⟩ | ⟨a, len', cap', zs, hcs, _, hl, hm, hz, hx, hcell, hwz⟩
  · simp at hcs
    subst hcs
    subst hx
    exact ⟨none, [], 0, rfl, Nat.le_refl _, by simp [maxLen], by simp, .inl rfl, by simp, .inl ⟨rfl, rfl⟩⟩
  · simp at hcs
    subst hcs
    simp only [if_true] at hz
    subst hx
    have hlen : (zs.take len').length = len' := by simp; omega
    refine ⟨some a, zs.take len', cap', by rw [hlen], by omega, hm, by simp, ?_, fun n hn => hwz n (List.mem_of_mem_take hn), .inr ⟨_, rfl, ?_⟩⟩
    · by_cases h0 : len' = 0
      · left; simp [h0]
      · right
        obtain ⟨b, off, rfl, hc⟩ := ints_at hcell (by omega)
        refine ⟨b, off, rfl, cell_lt (hc 0 (by omega)), fun i hi => ?_⟩
        simp only [List.length_map, hlen] at hi
        rw [hc i (by omega)]
        simp [List.getElem?_take, hi]
        rw [List.getElem?_eq_getElem (by omega)]
        simp
    · simp [lits]; omega
end

theorem u32_wf {n : Int} (h : (Lit.int .u32 n).wf = true) : ∃ m : Nat, n = m ∧ m < 4294967296 := by
  simp [Lit.wf, IntKind.min, IntKind.max, IntKind.signed, IntKind.bits] at h
  exact ⟨n.toNat, by omega, by omega⟩
theorem i64_wf {n : Int} (h : (Lit.int .i64 n).wf = true) : n ≤ 9223372036854775807 := by
  simp [Lit.wf, IntKind.min, IntKind.max, IntKind.signed, IntKind.bits] at h
  omega

/-- What the datum of a piece says of its bytes' length. -/
def DataIs {H : Type} (p : PieceV) (d : DataW H) : Prop :=
  ∃ d0 d1 d2 d3, d = .agg [d0, d1, d2, d3] ∧ (d3 = .nil ∧ p.data = [] ∨ ∃ es sp, d3 = .slice es sp ∧ es.length = p.data.length)

theorem elem_piece {H : Type} {enc : TypeId × Value → H} {W : World} (n : Nat) (cs : List Value) (y : DataW H × List MemPlace) (h : DataW.trod enc Tryd.prog W 0 (fun _ => true) true n 33 cs = some y) :
    ∃ p : PieceV, cs = pcells p ∧ (GoodP W p ∧ DataIs p y.1) := by
  obtain ⟨ys, n', hy, hyl, hcl, hf⟩ := struct_cells Tryd.underlying33 (by kernel_rfl) (by kernel_rfl) h
  obtain ⟨c0, c1, c2, c3, rfl⟩ := list4 hcl
  obtain ⟨y0, y1, y2, y3, rfl⟩ := list4 hyl
  obtain ⟨v0, z0, e0, g0, t0⟩ := hf 0 _ rfl
  obtain ⟨v1, z1, e1, g1, t1⟩ := hf 1 _ rfl
  obtain ⟨v2, z2, e2, g2, t2⟩ := hf 2 _ rfl
  obtain ⟨v3, z3, e3, g3, t3⟩ := hf 3 _ rfl
  obtain ⟨a, ea, _, wa⟩ := DataW.trod_int Tryd.underlying3 t0
  obtain ⟨b, eb, _, wb⟩ := DataW.trod_int Tryd.underlying3 t1
  obtain ⟨c, ec, _, wc⟩ := DataW.trod_int Tryd.underlying31 t2
  obtain ⟨ad, l, cap, ed, hlc, hcm, hnil, hlie, hwf, hd⟩ := elem_ints Tryd.underlying22 Tryd.underlying5 (by kernel_rfl) t3
  obtain ⟨q, rfl, hq⟩ := u32_wf wc
  obtain ⟨m, rfl, hm⟩ := nat_list l (byte_wf hwf)
  rw [bcells_of] at hlie
  simp only [List.length_map] at *
  simp at e0 e1 e2 e3 ea eb ec
  subst e0 e1 e2 e3 ea eb ec ed
  refine ⟨⟨a, b, q, ad, cap, m⟩, rfl, ⟨hlie, hm, hq, hnil, hlc, hcm, i64_wf wb⟩, ?_⟩
  simp at g0 g1 g2 g3
  subst g0 g1 g2 g3
  refine ⟨_, _, _, _, hy, ?_⟩
  rcases hd with ⟨h1, h2⟩ | ⟨sp, h1, h2⟩
  · exact .inl ⟨h1, by simpa using h2⟩
  · exact .inr ⟨_, sp, h1, by simp⟩

/-- A list of pieces lies at an address. -/
def PinAt (w : World) (a : Option Addr) (L : List PieceV) : Prop := RowsAt w a 4 (L.map pcells)
theorem PinAt.cells {w : World} {a : Option Addr} {L : List PieceV} (h : PinAt w a L) (hne : L ≠ []) :
    ∃ b off, a = some ⟨b, off, none⟩ ∧ b < w.heap.size ∧ ∀ k (hk : k < L.length), w.cell? ⟨b, off + k * 4, none⟩ = some (.int .i64 L[k].pos) ∧ w.cell? ⟨b, off + k * 4 + 1, none⟩ = some (.int .i64 L[k].tot) ∧
      w.cell? ⟨b, off + k * 4 + 2, none⟩ = some (.int .u32 L[k].sum) ∧ w.cell? ⟨b, off + k * 4 + 3, none⟩ = some (.slice L[k].addr L[k].data.length L[k].cap) := by
  rcases h with h | ⟨b, off, h1, h2, h3⟩
  · exact absurd (List.map_eq_nil_iff.1 h) hne
  · refine ⟨b, off, h1, h2, fun k hk => ?_⟩
    have hk' : k < (L.map pcells).length := by simpa using hk
    have e : (L.map pcells)[k] = pcells L[k] := by simp
    have g := fun j hj => h3 k hk' j hj
    rw [e] at g
    exact ⟨g 0 (by omega), g 1 (by omega), g 2 (by omega), g 3 (by omega)⟩
end Go.Proofs.YtgpkenbefolegaaDoor.box
