/-
  Contracts of the helpers Piece and Same over pieces, where the two are alike.
-/
import Derived.Test.YtgpkenbefolegaaDoorCut
import Derived.Test.YtgpkenbefolegaaDoorKit2
namespace Go.Proofs.YtgpkenbefolegaaDoor.cut
open Go.ChangeShapes Go.WideShapes Go.ChangeAt Go.RowKit
open Go.Proofs.YtgpkenbefolegaaDoor.kit Go.Proofs.YtgpkenbefolegaaDoor.byt Go.Proofs.YtgpkenbefolegaaDoor.sum
set_option linter.unusedVariables false
set_option linter.unusedSimpArgs false
set_option maxHeartbeats 1000000
set_option maxRecDepth 100000

def pval (p : PieceV) : Value := .agg #[.int .i64 p.pos, .int .i64 p.tot, .int .u32 p.sum, .slice p.addr p.data.length p.cap]
def Alike (p q : PieceV) : Prop := p.pos = q.pos ∧ p.tot = q.tot ∧ p.sum = q.sum ∧ p.data = q.data

theorem piece_true (p q : PieceV) (w : World) (h : Alike p q) (hl : p.data.length ≤ 9223372036854775807) (hp : Lie w p.addr (bcells p.data)) (hq : Lie w q.addr (bcells q.data)) :
    Calls Tryd.prog 15 #[pval p, pval q] w fun e w' => e = .returned (.bool true) ∧ Below w.heap.size w w' := by
  obtain ⟨px, pt, ps, pa, pc, pd⟩ := p
  obtain ⟨qx, qt, qs, qa, qc, qd⟩ := q
  obtain ⟨h1, h2, h3, h4⟩ := h
  simp only at h1 h2 h3 h4
  subst h1 h2 h3 h4
  have hs : sameB pd pd = true := by simp [sameB]
  have HP := Lib.hid hp
  have HQ := Lib.hid hq
  clear hp hq
  simp only [pval] at *
  go_enter Tryd.func15, Tryd.ntmps15
  go_wp2_with fail
  refine (bytes_any pd pd _ _ _ _ _ hl (HP.out.below (below_new2 _ _ _)) (HQ.out.below (below_new2 _ _ _))).mono ?_; rintro e w1 ⟨rfl, hb1⟩
  go_wp2_with fail
  go_ret
  exact ⟨rfl, (below_new2 _ _ _).trans (Below.mono hb1 (by rw [size_new, size_new]; omega))⟩

theorem same_true (x y : List PieceV) (b c : Nat) (cx cy : Nat) (w : World) (hbl : b < w.heap.size) (hcl : c < w.heap.size) (hlen : x.length = y.length) (hmax : x.length ≤ 1048576) (hal : ∀ i (h : i < x.length) (h' : i < y.length), Alike x[i] y[i])
    (hx : ∀ j, j < x.length * 4 → w.cell? ⟨b, j, none⟩ = (pcellsL x)[j]?) (hy : ∀ j, j < y.length * 4 → w.cell? ⟨c, j, none⟩ = (pcellsL y)[j]?)
    (hdx : ∀ p ∈ x, p.data.length ≤ 9223372036854775807 ∧ Lie w p.addr (bcells p.data)) (hdy : ∀ p ∈ y, Lie w p.addr (bcells p.data)) :
    Calls Tryd.prog 14 #[.slice (some ⟨b, 0, none⟩) x.length cx, .slice (some ⟨c, 0, none⟩) y.length cy, .func (.func 15) #[] #[]] w fun e w' => e = .returned (.bool true) ∧ Below w.heap.size w w' := by
  have HX := Lib.hid hx
  have HY := Lib.hid hy
  have HDX := Lib.hid hdx
  have HDY := Lib.hid hdy
  have HAL := Lib.hid hal
  have HL := Lib.hid hlen
  rw [← hlen]
  have hne : ((x.length : Int) != (x.length : Int)) = false := by simp
  clear hx hy hdx hdy hal hlen
  go_enter Tryd.func14, Tryd.ntmps14
  go_wp2_with fail
  go_loopw [7] (fun i wr => ∃ k : Nat, k ≤ x.length ∧ i = .int .i64 k ∧ Below w.heap.size w wr) (fun i _ => x.length - (intOf i).toNat)
  case atStart => exact ⟨0, Nat.zero_le _, rfl, Below.refl _ _⟩
  case round =>
    obtain ⟨k, hk, rfl, hb⟩ := hrel
    by_cases hlt : k < x.length
    · have hlb : k < y.length := by have := HL.out; omega
      obtain ⟨p, hp⟩ : ∃ p, p = x[k] := ⟨_, rfl⟩
      obtain ⟨q, hq⟩ : ∃ q, q = y[k] := ⟨_, rfl⟩
      have hxc : ∀ j, j < 4 → wr.cell? ⟨b, k * 4 + j, none⟩ = (pcells p)[j]? := by
        intro j hj
        rw [hb.cell (by exact hbl), HX.out _ (by omega), pcellsL_get x k hlt j hj, hp]
      have hyc : ∀ j, j < 4 → wr.cell? ⟨c, k * 4 + j, none⟩ = (pcells q)[j]? := by
        intro j hj
        rw [hb.cell (by exact hcl), HY.out _ (by omega), pcellsL_get y k hlb j hj, hq]
      have hal := HAL.out k hlt hlb
      rw [← hp, ← hq] at hal
      have hdx := HDX.out p (by rw [hp]; exact List.getElem_mem hlt)
      have hdy := HDY.out q (by rw [hq]; exact List.getElem_mem hlb)
      have cx0 : wr.cell? ⟨b, k * 4, none⟩ = some (.int .i64 p.pos) := hxc 0 (by omega)
      have cx1 : wr.cell? ⟨b, k * 4 + 1, none⟩ = some (.int .i64 p.tot) := hxc 1 (by omega)
      have cx2 : wr.cell? ⟨b, k * 4 + 2, none⟩ = some (.int .u32 p.sum) := hxc 2 (by omega)
      have cx3 : wr.cell? ⟨b, k * 4 + 3, none⟩ = some (.slice p.addr p.data.length p.cap) := hxc 3 (by omega)
      have cy0 : wr.cell? ⟨c, k * 4, none⟩ = some (.int .i64 q.pos) := hyc 0 (by omega)
      have cy1 : wr.cell? ⟨c, k * 4 + 1, none⟩ = some (.int .i64 q.tot) := hyc 1 (by omega)
      have cy2 : wr.cell? ⟨c, k * 4 + 2, none⟩ = some (.int .u32 q.sum) := hyc 2 (by omega)
      have cy3 : wr.cell? ⟨c, k * 4 + 3, none⟩ = some (.slice q.addr q.data.length q.cap) := hyc 3 (by omega)
      have HPP : Hid (∀ W, Below w.heap.size w W → Calls Tryd.prog 15 #[pval p, pval q] W fun e w' => e = .returned (.bool true) ∧ Below W.heap.size W w') :=
        fun W hW => piece_true p q W hal hdx.1 (hdx.2.below hW) (hdy.below hW)
      have hlt2 : (k : Int) < (x.length : Int) := by omega
      have hk0 : (0 : Int) ≤ (k : Int) := by omega
      have hb0 := hb
      have hHB : Hid (Below w.heap.size w wr.drew) := below_drewN hb 1
      clear hp hq hal hdx hdy hxc hyc hlb
      go_wp2_with fail
      have hStab : ∀ Wx Wy : World, Below Wx.heap.size Wx Wy → (Wx.cell? ⟨b, k * 4, none⟩ = some (.int .i64 p.pos) ∧ Wx.cell? ⟨b, k * 4 + 1, none⟩ = some (.int .i64 p.tot) ∧ Wx.cell? ⟨b, k * 4 + 2, none⟩ = some (.int .u32 p.sum) ∧ Wx.cell? ⟨b, k * 4 + 3, none⟩ = some (.slice p.addr p.data.length p.cap) ∧ Wx.cell? ⟨c, k * 4, none⟩ = some (.int .i64 q.pos) ∧ Wx.cell? ⟨c, k * 4 + 1, none⟩ = some (.int .i64 q.tot) ∧ Wx.cell? ⟨c, k * 4 + 2, none⟩ = some (.int .u32 q.sum) ∧ Wx.cell? ⟨c, k * 4 + 3, none⟩ = some (.slice q.addr q.data.length q.cap) ∧ Below w.heap.size w Wx) → (Wy.cell? ⟨b, k * 4, none⟩ = some (.int .i64 p.pos) ∧ Wy.cell? ⟨b, k * 4 + 1, none⟩ = some (.int .i64 p.tot) ∧ Wy.cell? ⟨b, k * 4 + 2, none⟩ = some (.int .u32 p.sum) ∧ Wy.cell? ⟨b, k * 4 + 3, none⟩ = some (.slice p.addr p.data.length p.cap) ∧ Wy.cell? ⟨c, k * 4, none⟩ = some (.int .i64 q.pos) ∧ Wy.cell? ⟨c, k * 4 + 1, none⟩ = some (.int .i64 q.tot) ∧ Wy.cell? ⟨c, k * 4 + 2, none⟩ = some (.int .u32 q.sum) ∧ Wy.cell? ⟨c, k * 4 + 3, none⟩ = some (.slice q.addr q.data.length q.cap) ∧ Below w.heap.size w Wy) := by
        intro Wx Wy kk hs
        obtain ⟨s0, s1, s2, s3, s4, s5, s6, s7, s8⟩ := hs
        exact ⟨cell_step s0 kk, cell_step s1 kk, cell_step s2 kk, cell_step s3 kk, cell_step s4 kk, cell_step s5 kk, cell_step s6 kk, cell_step s7 kk, below_step s8 kk⟩
      have HhStab := Lib.hid hStab
      clear hStab
      go_region_held3 (fun w' => w'.cell? ⟨b, k * 4, none⟩ = some (.int .i64 p.pos) ∧ w'.cell? ⟨b, k * 4 + 1, none⟩ = some (.int .i64 p.tot) ∧ w'.cell? ⟨b, k * 4 + 2, none⟩ = some (.int .u32 p.sum) ∧ w'.cell? ⟨b, k * 4 + 3, none⟩ = some (.slice p.addr p.data.length p.cap) ∧ w'.cell? ⟨c, k * 4, none⟩ = some (.int .i64 q.pos) ∧ w'.cell? ⟨c, k * 4 + 1, none⟩ = some (.int .i64 q.tot) ∧ w'.cell? ⟨c, k * 4 + 2, none⟩ = some (.int .u32 q.sum) ∧ w'.cell? ⟨c, k * 4 + 3, none⟩ = some (.slice q.addr q.data.length q.cap) ∧ Below w.heap.size w w') (first | (exact ⟨cx0, cx1, cx2, cx3, cy0, cy1, cy2, cy3, below_drewN hb 1⟩) | (refine HhStab.out _ _ hbn ?_; assumption)) (first | (go_at_call 15; refine (HPP.out _ (Hid.out hHB)).mono ?_; rintro e wn ⟨rfl, hbn⟩))
      have hbw := below_step hHB.out hbn
      go_wp2_with fail
      go_roundw
      case rel => exact ⟨k + 1, by omega, by go_num, hbw⟩
      case measure => simp [intOf]; omega
    · go_wp2_with fail
      go_ret
      exact ⟨rfl, hb⟩

theorem same_empty (a c : Option Addr) (cx cy : Nat) (w : World) :
    Calls Tryd.prog 14 #[.slice a 0 cx, .slice c 0 cy, .func (.func 15) #[] #[]] w fun e w' => e = .returned (.bool true) ∧ Below w.heap.size w w' := by
  go_enter Tryd.func14, Tryd.ntmps14
  go_wp2_with fail
  refine wp_loop_rounds 1 ?_
  rw [rounds_succ]
  go_wp2_with fail
  go_ret
  exact ⟨rfl, Below.refl _ _⟩

theorem data_lie {w : World} {base : Nat} {p : PieceV} (h : DataAt w base p) : p.data.length ≤ 9223372036854775807 ∧ Lie w p.addr (bcells p.data) := by
  obtain ⟨ao, cap, hv, hn, hl, -⟩ := owned_lie h
  obtain ⟨a, c, hv2, -, h1, h2⟩ := own_shape h
  simp only [Value.slice.injEq, true_and] at hv hv2
  obtain ⟨rfl, rfl⟩ := hv
  refine ⟨?_, hl⟩
  have : p.data.length ≤ maxLen := by have h3 := hv2.2; omega
  simpa [maxLen] using this

/-- Two lists of pieces that are alike, each in memory of its own. -/
theorem same_pieces (x y : List PieceV) (bx bz : Nat) (vx vy : Value) (w : World) (hx : PiecesAt w bx vx x) (hy : PiecesAt w bz vy y) (hlen : x.length = y.length) (hmax : x.length ≤ 1048576) (hal : ∀ i (h : i < x.length) (h' : i < y.length), Alike x[i] y[i]) :
    Calls Tryd.prog 14 #[vx, vy, .func (.func 15) #[] #[]] w fun e w' => e = .returned (.bool true) ∧ Below w.heap.size w w' := by
  by_cases h0 : x.length = 0
  · obtain ⟨a, c, rfl, -⟩ := own_shape hx.1
    obtain ⟨a', c', rfl, -⟩ := own_shape hy.1
    rw [← hlen, h0]
    exact same_empty _ _ _ _ w
  · obtain ⟨g, cap, rfl, _, _, _, hg⟩ := owned_some hx.1 (by omega)
    obtain ⟨g', cap', rfl, _, _, _, hg'⟩ := owned_some hy.1 (by omega)
    exact same_true x y g g' cap cap' w hg hg' hlen hmax hal (fun j hj => World.ownsRow.cellAt hx.1 j hj) (fun j hj => World.ownsRow.cellAt hy.1 j hj) (fun p hp => data_lie (hx.2 p hp)) (fun p hp => (data_lie (hy.2 p hp)).2)
end Go.Proofs.YtgpkenbefolegaaDoor.cut
