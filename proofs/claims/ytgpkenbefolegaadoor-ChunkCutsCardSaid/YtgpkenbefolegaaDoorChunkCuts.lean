/-
  The statement ChunkCuts: the pieces of some bytes; what is handed in stays, what is told is its own.
-/
import Derived.Test.YtgpkenbefolegaaDoorRefCut
import Derived.Test.YtgpkenbefolegaaDoorSameP
import Derived.Test.YtgpkenbefolegaaDoorChecked
import Derived.Test.YtgpkenbefolegaaDoorRows
import Derived.Test.YtgpkenbefolegaaDoorCards
import Derived.Test.YtgpkenbefolegaaDoorTie
import Derived.Test.YtgpkenbefolegaaDoorLaid
namespace Go.Proofs.YtgpkenbefolegaaDoor.chunkCuts
open Go.ChangeShapes Go.WideShapes Go.ChangeAt Go.RowKit
open Go.Proofs.YtgpkenbefolegaaDoor.kit Go.Proofs.YtgpkenbefolegaaDoor.byt Go.Proofs.YtgpkenbefolegaaDoor.sum Go.Proofs.YtgpkenbefolegaaDoor.cut Go.Proofs.YtgpkenbefolegaaDoor.laid
set_option linter.unusedVariables false
set_option linter.unusedSimpArgs false
set_option maxHeartbeats 1000000
set_option maxRecDepth 100000

theorem awake_ok (w : World) (ht : Tab w) : Calls Tryd.prog 12 #[] w fun e w' => e = .returned (.bool true) ∧ Below w.heap.size w w' := by
  have hC : Calls Tryd.prog 10 #[.slice (some ⟨w.heap.size, 0, none⟩) 2 2] (w.alloc (.cells #[.int .u8 1, .int .u8 2] 5)) (GivesPieces (w.alloc (.cells #[.int .u8 1, .int .u8 2] 5)) [1, 2]) := by
    refine cut_any [1, 2] _ 2 _ (by simp) (by simp) (by omega) (by simp) (by intro x hx; simp at hx; omega) (cut.Tab.below ht (below_new1 _ _)) ?_
    refine .inr ⟨_, 0, rfl, by rw [size_new]; omega, fun i hi => ?_⟩
    have hb := blk2 (hp_alloc_new w (.cells #[.int .u8 1, .int .u8 2] 5))
    match i, hi with
    | 0, _ => exact hb.1
    | 1, _ => exact hb.2.1
  go_enter Tryd.func12, Tryd.ntmps12
  go_wp2_with fail
  refine hC.mono ?_; rintro e w1 ⟨v, ps, rfl, hps, hpl, hpart, hb1⟩
  have hp1 : ps.length = 1 := by rw [hpl]; simp [nOf]
  obtain ⟨g, cap, rfl, _, _, _, hg⟩ := owned_some hps.1 (by omega)
  have hd := (hpart 0 (by omega)).2.2.2
  have hc3 := World.ownsRow.cellAt hps.1 3 (by omega)
  have e3 : (pcellsL ps)[0 * 4 + 3]? = (pcells (ps[0]'(by omega)))[3]? := pcellsL_get ps 0 (by omega) 3 (by omega)
  rw [Nat.zero_mul, Nat.zero_add] at e3
  rw [e3] at hc3
  obtain ⟨p, hp⟩ : ∃ p, p = ps[0]'(by omega) := ⟨_, rfl⟩
  rw [← hp] at hd hc3
  have hc : w1.cell? ⟨g, 3, none⟩ = some (.slice p.addr p.data.length p.cap) := hc3
  have hd2 : p.data.length = 2 := by rw [hd]; simp [cut.part]
  rw [hd2] at hc
  rw [hp1]
  have HB := Lib.hid hb1
  clear hb1 hps hpl hpart hp hd hc3 e3 hC ht
  go_wp2_with fail
  go_ret
  exact ⟨rfl, (below_new1 _ _).trans (Below.mono HB.out (by rw [size_new]; omega))⟩

theorem own_keep {S : Nat → Prop} {w w' : World} {base : Nat} {e : TypeId} {size : Nat} {v : Value} {n : Nat} {xs : List Value} (h : w.ownsRow base e size v n xs) (hk : Keep S w w') (hS : ∀ k, base ≤ k → ¬ S k) : w'.ownsRow base e size v n xs := by
  obtain ⟨h1, h2⟩ := h
  refine ⟨h1, ?_⟩
  rcases h2 with h2 | ⟨g, cap, cur, hv, hg, hh, r⟩
  · exact .inl h2
  · exact .inr ⟨g, cap, cur, hv, hg, (hk.block g (Array.getElem?_eq_some_iff.1 hh).1 (hS g hg)).trans hh, r⟩
theorem PiecesAt.keep {S : Nat → Prop} {w w' : World} {base : Nat} {v : Value} {l : List PieceV} (h : PiecesAt w base v l) (hk : Keep S w w') (hS : ∀ k, base ≤ k → ¬ S k) : PiecesAt w' base v l :=
  ⟨own_keep h.1 hk hS, fun p hp => own_keep (h.2 p hp) hk hS⟩

/-- What both Cuts tell, whatever the length: the pieces, or none and ErrLong. -/
def GivesAll (w : World) (l : List Nat) (nn : Nat) (code : Int) (e : Ending) (w' : World) : Prop :=
  ∃ v ps, e = .returned (.tuple #[v, .int .i64 code]) ∧ PiecesAt w' w.heap.size v ps ∧ ps.length = nn ∧ (∀ i (h : i < ps.length), IsPart l i ps[i]) ∧ Below w.heap.size w w'
def nnOf (l : List Nat) : Nat := if l.length ≤ 8192 then nOf l else 0
def codeOf (l : List Nat) : Int := if l.length ≤ 8192 then 0 else 22
theorem nnOf_le (l : List Nat) : nnOf l ≤ 1048576 := by
  unfold nnOf nOf
  split <;> omega
theorem cut_all (l : List Nat) (a : Option Addr) (cap : Nat) (w : World) (hl : l.length ≤ 140737488351232) (hlc : l.length ≤ cap) (hcm : cap ≤ 9223372036854775807) (hn : a = none → l.length = 0 ∧ cap = 0) (hby : Byt l) (ht : Tab w) (hat : Lie w a (bcells l)) :
    Calls Tryd.prog 10 #[.slice a l.length cap] w (GivesAll w l (nnOf l) (codeOf l)) := by
  by_cases h : l.length ≤ 8192
  · refine (cut_any l a cap w h hlc hcm hn hby ht hat).mono fun e w' ⟨v, ps, he, h1, h2, h3, h4⟩ => ⟨v, ps, ?_, h1, ?_, h3, h4⟩
    · rw [he, codeOf, if_pos h]
    · rw [h2, nnOf, if_pos h]
  · refine (cut_long l a cap w (by omega) (by omega)).mono ?_
    rintro e w' ⟨rfl, rfl⟩
    refine ⟨.slice none 0 0, [], by rw [codeOf, if_neg h], ⟨World.ownsRow_nil _ _ _ _, by simp⟩, by rw [nnOf, if_neg h]; rfl, by simp, Below.refl _ _⟩
theorem ref_all (l : List Nat) (a : Option Addr) (cap : Nat) (w : World) (hl : l.length ≤ 140737488351232) (hlc : l.length ≤ cap) (hcm : cap ≤ 9223372036854775807) (hn : a = none → l.length = 0 ∧ cap = 0) (hby : Byt l) (hat : Lie w a (bcells l)) :
    Calls Tryd.prog 11 #[.slice a l.length cap] w (GivesAll w l (nnOf l) (codeOf l)) := by
  by_cases h : l.length ≤ 8192
  · refine (ref_any l a cap w h hlc hcm hn hby hat).mono fun e w' ⟨v, ps, he, h1, h2, h3, h4⟩ => ⟨v, ps, ?_, h1, ?_, h3, h4⟩
    · rw [he, codeOf, if_pos h]
    · rw [h2, nnOf, if_pos h]
  · refine (ref_long l a cap w (by omega) (by omega)).mono ?_
    rintro e w' ⟨rfl, rfl⟩
    refine ⟨.slice none 0 0, [], by rw [codeOf, if_neg h], ⟨World.ownsRow_nil _ _ _ _, by simp⟩, by rw [nnOf, if_neg h]; rfl, by simp, Below.refl _ _⟩

theorem walk_ok (l : List Nat) (a : Option Addr) (cap : Nat) (w : World) (hl : l.length ≤ 140737488351232) (hlc : l.length ≤ cap) (hcm : cap ≤ 9223372036854775807) (hn : a = none → l.length = 0 ∧ cap = 0) (hby : Byt l) (ht : Tab w) (hat : Lie w a (bcells l)) :
    Calls Tryd.prog 3 #[.slice a l.length cap] w fun e w' => e = .returned (.bool true) ∧ Below w.heap.size w w' := by
  have HAT := Lib.hid hat
  have HBY := Lib.hid hby
  have HT := Lib.hid ht
  have HN := Lib.hid hn
  clear hat hby ht hn
  have hnm := nnOf_le l
  obtain ⟨cd, hcd⟩ : ∃ cd, cd = codeOf l := ⟨_, rfl⟩
  obtain ⟨nn, hnn⟩ : ∃ nn, nn = nnOf l := ⟨_, rfl⟩
  have HC1 : Hid (∀ (a : Option Addr) (cap : Nat) (w : World), l.length ≤ cap → cap ≤ 9223372036854775807 → (a = none → l.length = 0 ∧ cap = 0) → Byt l → Tab w → Lie w a (bcells l) → Calls Tryd.prog 10 #[.slice a l.length cap] w (GivesAll w l nn cd)) := by
    rw [hnn, hcd]; exact fun a cap w => cut_all l a cap w hl
  have HC2 : Hid (∀ (a : Option Addr) (cap : Nat) (w : World), l.length ≤ cap → cap ≤ 9223372036854775807 → (a = none → l.length = 0 ∧ cap = 0) → Byt l → Lie w a (bcells l) → Calls Tryd.prog 11 #[.slice a l.length cap] w (GivesAll w l nn cd)) := by
    rw [hnn, hcd]; exact fun a cap w => ref_all l a cap w hl
  rw [← hnn] at hnm
  clear hcd hnn
  go_enter Tryd.func3, Tryd.ntmps3
  go_wp2_with fail
  refine (own_any l 71 a cap _ (by omega) HN.out HAT.out).mono ?_; rintro e w1 ⟨g, cg, rfl, hown, hb1⟩
  have hs1 := hb1.size
  have HO := Lib.hid hown
  have hcg : l.length + 2 ≤ cg := (owned_some hown (by omega)).elim fun g' h => h.elim fun c' h => by
    obtain ⟨e, h1, h2, h3, h4⟩ := h
    simp only [Value.slice.injEq, Option.some.injEq, Addr.mk.injEq, and_true, true_and] at e
    omega
  have hcg2 : cg ≤ 9223372036854775807 := (own_shape hown).elim fun a' h => h.elim fun c' h => by
    obtain ⟨e, h1, h2, h3⟩ := h
    simp only [Value.slice.injEq, true_and] at e
    rw [← e.2] at h3
    simpa [maxLen] using h3
  have hg1 : w.heap.size ≤ g ∧ g < w1.heap.size := (owned_some hown (by omega)).elim fun g' h => h.elim fun c' h => by
    obtain ⟨e, h1, h2, h3, h4⟩ := h
    simp only [Value.slice.injEq, Option.some.injEq, Addr.mk.injEq, and_true, true_and] at e
    rw [e.1]; exact ⟨h3, h4⟩
  have HL1 : Hid (Lie w1 (some ⟨g, 0, none⟩) (bcells l)) := .inr ⟨g, 0, rfl, hg1.2, fun i hi => by
    rw [bcells_len] at hi
    rw [Nat.zero_add, World.ownsRow.cellAt hown i (by omega), bcells_append, List.getElem?_append_left (by simpa [bcells] using hi)]⟩
  clear hown
  go_wp2_with fail
  refine (HC1.out _ cg _ (by omega) hcg2 (by simp) HBY.out (cut.Tab.below HT.out hb1) HL1.out).mono ?_; rintro e w2 ⟨vx, px, rfl, hpx, hpxl, hpxp, hb2⟩
  have HPX := Lib.hid hpx
  have HPXP := Lib.hid hpxp
  have HPXL := Lib.hid hpxl
  have hB2 : Below w.heap.size w w2 := below_step hb1 hb2
  clear hpx hpxp hpxl
  go_wp2_with fail
  refine (HC2.out a cap _ hlc hcm HN.out HBY.out (HAT.out.below hB2)).mono ?_; rintro e w3 ⟨vy, py, rfl, hpy, hpyl, hpyp, hb3⟩
  have HPY := Lib.hid hpy
  have HPYP := Lib.hid hpyp
  have HPYL := Lib.hid hpyl
  have hB3 : Below w.heap.size w w3 := below_step hB2 hb3
  clear hpy hpyp hpyl
  go_wp2_with fail
  refine (awake_ok _ (cut.Tab.below HT.out hB3)).mono ?_; rintro e w4 ⟨rfl, hb4⟩
  have hB4 : Below w.heap.size w w4 := below_step hB3 hb4
  go_wp2_with fail
  have H14 : Below w1.heap.size w1 w4 := below_step (below_step hb2 hb3) hb4
  refine (kept_any l 71 g cg a cap w.heap.size _ (by omega) (own_below HO.out H14) (HAT.out.below hB4)).mono ?_; rintro e w5 ⟨rfl, hb5⟩
  have hB5 : Below w.heap.size w w5 := below_step hB4 hb5
  have H15 : Below w1.heap.size w1 w5 := below_step H14 hb5
  have H35 : Below w3.heap.size w3 w5 := below_step hb4 hb5
  have H25 : Below w2.heap.size w2 w5 := below_step hb3 H35
  have hx5 := HPX.out.below H25
  have hy5 := HPY.out.below H35
  have hpl : px.length = py.length := by rw [HPXL.out, HPYL.out]
  have hpm : px.length ≤ 1048576 := by rw [HPXL.out]; exact hnm
  have hal : ∀ i (h : i < px.length) (h' : i < py.length), cut.Alike px[i] py[i] := by
    intro i h h'
    obtain ⟨a1, a2, a3, a4⟩ := HPXP.out i h
    obtain ⟨b1, b2, b3, b4⟩ := HPYP.out i h'
    exact ⟨by rw [a1, b1], by rw [a2, b2], by rw [a3, b3], by rw [a4, b4]⟩
  go_wp2_with fail
  refine (same_pieces px py _ _ vx vy _ hx5 hy5 hpl hpm hal).mono ?_; rintro e w6 ⟨rfl, hb6⟩
  have hB6 : Below w.heap.size w w6 := below_step hB5 hb6
  have H16 : Below w1.heap.size w1 w6 := below_step H15 hb6
  have HX6 := Lib.hid (hx5.below hb6)
  have HY6 := Lib.hid (hy5.below hb6)
  have HAL := Lib.hid hal
  have hO6 := own_below HO.out H16
  have hcells : ∃ cur : Array Value, w6.heap[g]? = some (.cells cur 5 (0, 0)) ∧ l.length ≤ cur.size := by
    rcases hO6.2 with ⟨e, _⟩ | ⟨g', c', cur, e, hg', hh, hc, hm, hsz, hx⟩
    · cases e
    · simp only [Value.slice.injEq, Option.some.injEq, Addr.mk.injEq, and_true, true_and] at e
      rw [← e.1] at hh
      exact ⟨cur, hh, by omega⟩
  have HC := Lib.hid hcells
  clear hcells hO6 hx5 hy5 hal
  go_wp2_with fail
  go_loopw [8] (fun i wr => ∃ k : Nat, k ≤ l.length ∧ i = .int .i64 k ∧ Keep (· = g) w6 wr ∧ Hid (∃ cur : Array Value, wr.heap[g]? = some (.cells cur 5 (0, 0)) ∧ l.length ≤ cur.size)) (fun i _ => l.length - (intOf i).toNat)
  case atStart => exact ⟨0, Nat.zero_le _, rfl, Keep.refl _ _, HC⟩
  case round =>
    obtain ⟨k, hk, rfl, hkp, hcur⟩ := hrel
    by_cases hlt : k < l.length
    · obtain ⟨cur, hh, hcs⟩ := hcur.out
      have hcell : wr.cell? ⟨g, k, none⟩ = some (cur[k]'(by omega)) := by rw [(blk hh).1, Array.getElem?_eq_getElem (by omega)]
      have hfz : wr.frozen? ⟨g, k, none⟩ = false := (blk hh).2.1 k
      have hNew : Hid (∃ cur : Array Value, (wr.setCell ⟨g, k, none⟩ (.int .u8 98)).heap[g]? = some (.cells cur 5 (0, 0)) ∧ l.length ≤ cur.size) := ⟨_, hp_set hh k _, by simpa using hcs⟩
      have hkn : Keep (· = g) w6 (wr.setCell ⟨g, k, none⟩ (.int .u8 98)) := hkp.setCell (.inr rfl) _
      have hlt2 : (k : Int) < (l.length : Int) := by omega
      obtain ⟨u, hu⟩ : ∃ u, u = cur[k]'(by omega) := ⟨_, rfl⟩
      rw [← hu] at hcell
      clear hh hcs hu hcur
      go_wp2_with fail
      go_roundw
      case rel => exact ⟨k + 1, by omega, by go_num, hkn, hNew⟩
      case measure => simp [intOf]; omega
    · have hgs : ∀ k : Nat, w1.heap.size ≤ k → ¬ k = g := by omega
      have hgs2 : ∀ k : Nat, w2.heap.size ≤ k → ¬ k = g := by have := hb2.size; omega
      have hx7 := PiecesAt.keep HX6.out hkp hgs
      have hy7 := PiecesAt.keep HY6.out hkp hgs2
      have hBr : Below w.heap.size w wr := hB6.trans (hkp.below hB6.size (fun k hk => by omega))
      go_wp2_with fail
      refine (same_pieces px py _ _ vx vy _ hx7 hy7 hpl hpm HAL.out).mono ?_; rintro e w8 ⟨rfl, hb8⟩
      go_wp2_with fail
      go_ret
      exact ⟨rfl, below_step hBr hb8⟩

theorem lawWalk {H : Type} (enc : TypeId × Value → H) (W : World) (base : Nat) (args : Array Value) (ds : List (DataW H)) (p : List MemPlace)
    (hval : ∀ (j : Nat) t v, Tryd.f3.params[j]? = some t → args[j]? = some v → Value.okWide Tryd.prog W .any base t v)
    (hA : DataW.TrodAll enc Tryd.prog W 0 (fun _ => true) true Tryd.f3.params.toList args.toList ds p)
    (hsz : (DataW.weightsEach Tryd.prog Tryd.f3.params.toList ds).all (· ≤ reachBytes) = true) (ht : Tab W) :
    Calls Tryd.prog 3 args W fun e w' => e = .returned (.bool true) ∧ Below W.heap.size W w' := by
  rw [Tryd.params3] at hA hval hsz
  obtain ⟨v0, vs0, d0, ds0, p0, q0, hargs, rfl, rfl, h0, r0⟩ := trodAll_cons hA
  obtain ⟨rfl, rfl, rfl⟩ := trodAll_nil r0
  obtain rfl : args = #[v0] := by cases args; simp_all
  obtain ⟨a, l, cap, rfl, hlc, hcm, hn, hat, hwf, hd⟩ := open_slice_int Tryd.underlying22 Tryd.underlying5 (by kernel_rfl) (hval 0 22 v0 rfl rfl) h0
  have hb : ∀ x ∈ l, 0 ≤ x ∧ x < 256 := byte_wf hwf
  have hlen : l.length ≤ 140737488351232 := by
    rcases hd with ⟨_, rfl⟩ | ⟨sp, rfl, hsp⟩
    · simp
    · have := sized_slice hsz (j := 0) rfl rfl Tryd.underlying22
      have e1 : Tryd.prog.bytesOf 5 = 1 := by kernel_rfl
      rw [e1] at this
      simp only [List.length_map, reachBytes] at this
      omega
  obtain ⟨m, rfl, hm⟩ := nat_list l hb
  rw [bcells_of] at hat
  simp only [List.length_map] at *
  exact walk_ok m a cap W hlen hlc (by unfold maxLen at hcm; omega) hn hm ht hat

theorem laid_met (os : Os) : laidMet Tryd.prog Rows.chunkCutsRow.laid ((laidWorld os).forCall (fun _ _ => 0) ⟨#[], #[.slice none 0 0], []⟩).memory :=
  laidMet_of_run' 8 (by kernel_rfl) (by kernel_rfl)
theorem reads (os : Os) {H : Type} (enc : TypeId × Value → H) : ∃ places, DataW.whole enc Tryd.prog ((laidWorld os).forCall (fun _ _ => 0) ⟨#[], #[.slice none 0 0], []⟩).memory Tryd.f3.params.toList Rows.chunkCutsSpec.vars false (#[.slice none 0 0] : Array Value).toList 8 = some ([.nil], [], places) :=
  ⟨[], by kernel_rfl⟩

set_option maxRecDepth 100000 in
theorem lifted (os : Os) (started : os.Started) (H : Type) (enc : TypeId × Value → H) (F : Stop.Interp) :
    ReturnsInHanded {} Tryd.checked os 3 .any ((OpenSpec.ofChange Rows.chunkCutsSpec).preRow enc Tryd.prog Tryd.f3 Rows.chunkCutsRow.domain false Rows.chunkCutsRow.laid) (((OpenSpec.ofChange Rows.chunkCutsSpec).at F).post enc Tryd.prog Tryd.f3 false true false false) := by
  obtain ⟨places, hx⟩ := reads os enc
  refine returnsInHanded_of_row (C := Tryd.checked) (s := (OpenSpec.ofChange Rows.chunkCutsSpec)) own started (by kernel_rfl) Tryd.func3
    (witness_row_at (enc := enc) (C := Tryd.checked) false (laidWorld os) #[.slice none 0 0] rfl (by kernel_rfl) (by kernel_rfl) (by kernel_rfl)
      (OpenSpec.preRow_of_cond 8 hx (by kernel_rfl) (fun k hk => by cases hk) (by kernel_rfl) (laid_met os))) ?_
  intro W base args ds gs before hval hW hcnd hk hsz hL _ _
  exact law_post_at (C := Tryd.checked) laidOut (fun ds h => by match ds, h with | [_], _ => rfl) 4 rfl Tryd.underlying4 rfl (by kernel_rfl) hW hsz
    (fun p hA hs => lawWalk enc W base args ds p hval hA hs (tab hL))

theorem said : Rows.ChunkCutsSaid :=
  OpenClaim.holds_of_cond 3 Tryd.f3 rfl rfl rfl rfl rfl rfl rfl ⟨rfl, rfl, rfl, rfl, rfl⟩ rfl rfl rfl rfl rfl (by kernel_rfl) Tryd.func3 (by kernel_rfl)
    (of_decide_eq_true (by kernel_rfl)) (by unfold Func.isWrapper; first | (rw [if_pos (by decide +kernel)]; kernel_rfl) | (rw [if_neg (by decide +kernel)]; exact ⟨rfl, rfl⟩))
    (fun os started H enc _ F => by rw [OpenClaim.pre_eq_preRow]; exact lifted os started H enc F)

theorem plain (f : FuncId) (fn : Func) (hf : Tryd.pinned.checked.prog.funcNamed "purse/purselaw12.ChunkCuts" = some f) (hfn : Tryd.pinned.checked.prog.funcs[f]? = some fn) :
    true = Tryd.pinned.checked.prog.looks [] ∧ ∀ (j : Nat) t, fn.params[j]? = some t → Tryd.pinned.checked.prog.wantsStandIn t = false := by
  obtain rfl : f = 3 := Option.some.inj ((show Tryd.prog.funcNamed "purse/purselaw12.ChunkCuts" = some 3 by kernel_rfl).symm.trans hf) |>.symm
  obtain rfl : fn = Tryd.f3 := (Option.some.inj (Tryd.func3.symm.trans hfn)).symm
  refine ⟨by kernel_rfl, ?_⟩
  have h : (Tryd.f3.params.toList.all fun t => ! Tryd.prog.wantsStandIn t) = true := by kernel_rfl
  intro j t ht
  have := List.all_eq_true.1 h t (by simpa using Array.mem_of_getElem? ht)
  have h2 : Tryd.prog.wantsStandIn t = false := by simpa using this
  exact h2

theorem card : Rows.ChunkCutsCardSaid :=
  Claim7.holds_tied_plain_at .later [] _ _ _ _ said (fun _ h => by cases h) (by kernel_rfl) (fun _ h => by cases h) chunkCuts_row_tie rfl ⟨rfl, rfl⟩ (by kernel_rfl) rfl plain (by kernel_rfl)
#print axioms card
end Go.Proofs.YtgpkenbefolegaaDoor.chunkCuts
