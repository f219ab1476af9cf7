/-
  A net's Fork.
-/
import Derived.Test.YtnnfagdhigodbaaNetB
import Derived.Test.YtnnfagdhigodbaaNetO
namespace Go.Proofs.Ytnnfagdhigodbaa.netfo
open Go.ChangeShapes Go.WideShapes Go.ChangeAt Go.RowKit Go.Shelf
open Go.Proofs.Ytnnfagdhigodbaa.kit Go.Proofs.Ytnnfagdhigodbaa.byt Go.Proofs.Ytnnfagdhigodbaa.netc Go.Proofs.Ytnnfagdhigodbaa.netg Go.Proofs.Ytnnfagdhigodbaa.nets Go.Proofs.Ytnnfagdhigodbaa.nett Go.Proofs.Ytnnfagdhigodbaa.nete Go.Proofs.Ytnnfagdhigodbaa.netf Go.Proofs.Ytnnfagdhigodbaa.netq Go.Proofs.Ytnnfagdhigodbaa.netl Go.Proofs.Ytnnfagdhigodbaa.neti Go.Proofs.Ytnnfagdhigodbaa.neto Go.Proofs.Ytnnfagdhigodbaa.netb
set_option linter.unusedVariables false
set_option linter.unusedSimpArgs false
set_option maxHeartbeats 4000000
set_option maxRecDepth 100000
attribute [local go_sem] Oper.semAt_some
attribute [-go_sem] Go.Builtin.append_

/-- What Fork has made ahead of its loop: the variable's box, the net, its cuts. -/
structure Made (w W : World) (nodes : Int) (S : Cuts) (zb fb m' : Nat) : Prop where
  box : W.heap[zb]? = some (.cells #[.pointer (some ⟨fb, 0, none⟩)] 24 (0, 0))
  net : W.heap[fb]? = some (.cells #[.int .i64 nodes, .slice none 0 0, .map (some m')] 67 (0, 0))
  cut : CutAt W m' S
  lo : w.heap.size ≤ zb ∧ w.heap.size ≤ fb ∧ w.heap.size ≤ m'
  below : Below w.heap.size w W
theorem made1 {w wn : World} {nodes : Int} {S : Cuts} (hB : Below w.heap.size w (w.drewN 1)) (hbn : Below (w.drewN 1).heap.size (w.drewN 1) wn) (hsn : wn.heap.size = (w.drewN 1).heap.size + 1) (hcm : CutAt wn (w.drewN 1).heap.size S) :
    Made w ((wn.alloc (.cells #[.int .i64 nodes, .slice none 0 0, .map (some w.heap.size)] 67)).alloc (.cells #[.pointer (some ⟨w.heap.size + 1, 0, none⟩)] 24)) nodes S (w.heap.size + 1 + 1) (w.heap.size + 1) w.heap.size := by
  have hs : wn.heap.size = w.heap.size + 1 := hsn
  have hn := new2 wn (.cells #[.int .i64 nodes, .slice none 0 0, .map (some w.heap.size)] 67) (.cells #[.pointer (some ⟨w.heap.size + 1, 0, none⟩)] 24)
  rw [hs] at hn
  exact ⟨hn.2.1, hn.1, CutAt.below hcm (below_new2 _ _ _), ⟨by omega, by omega, Nat.le_refl _⟩, below_step (below_step hB hbn) (below_new2 _ _ _)⟩
theorem made2 {w wn : World} {nodes : Int} {S : Cuts} (hB : Below w.heap.size w (w.drewN 1)) (hbn : Below (w.drewN 1).heap.size (w.drewN 1) wn) (hsn : wn.heap.size = (w.drewN 1).heap.size + 1) (hcm : CutAt wn (w.drewN 1).heap.size S) :
    Made w ((wn.alloc (.cells #[.pointer (some ⟨w.heap.size + 1 + 1, 0, none⟩)] 24)).alloc (.cells #[.int .i64 nodes, .slice none 0 0, .map (some w.heap.size)] 67)) nodes S (w.heap.size + 1) (w.heap.size + 1 + 1) w.heap.size := by
  have hs : wn.heap.size = w.heap.size + 1 := hsn
  have hn := new2 wn (.cells #[.pointer (some ⟨w.heap.size + 1 + 1, 0, none⟩)] 24) (.cells #[.int .i64 nodes, .slice none 0 0, .map (some w.heap.size)] 67)
  rw [hs] at hn
  exact ⟨hn.1, hn.2.1, CutAt.below hcm (below_new2 _ _ _), ⟨by omega, by omega, Nat.le_refl _⟩, below_step (below_step hB hbn) (below_new2 _ _ _)⟩
theorem made3 {w wn : World} {nodes : Int} {S : Cuts} (hB : Below w.heap.size w ((w.drewN 1).alloc (.cells #[.pointer none] 24))) (hbn : Below ((w.drewN 1).alloc (.cells #[.pointer none] 24)).heap.size ((w.drewN 1).alloc (.cells #[.pointer none] 24)) wn) (hsn : wn.heap.size = ((w.drewN 1).alloc (.cells #[.pointer none] 24)).heap.size + 1) (hcm : CutAt wn ((w.drewN 1).alloc (.cells #[.pointer none] 24)).heap.size S) (hx : wn.heap[w.heap.size]? = some (.cells #[.pointer none] 24 (0, 0))) :
    Made w ((wn.setCell ⟨w.heap.size, 0, none⟩ (.pointer (some ⟨w.heap.size + 1 + 1, 0, none⟩))).alloc (.cells #[.int .i64 nodes, .slice none 0 0, .map (some (w.heap.size + 1))] 67)) nodes S w.heap.size (w.heap.size + 1 + 1) (w.heap.size + 1) := by
  rw [size_new] at hsn hcm
  have hs : wn.heap.size = w.heap.size + 1 + 1 := hsn
  have hcm' : CutAt wn (w.heap.size + 1) S := hcm
  have hb0 := below_step hB hbn
  have hn := hp_alloc_new (wn.setCell ⟨w.heap.size, 0, none⟩ (.pointer (some ⟨w.heap.size + 1 + 1, 0, none⟩))) (.cells #[.int .i64 nodes, .slice none 0 0, .map (some (w.heap.size + 1))] 67)
  rw [size_set, hs] at hn
  refine ⟨hp_new (hp_set hx 0 _), hn, CutAt.below (hcm'.to (hp_set_ne (show w.heap.size + 1 ≠ w.heap.size by omega))) (below_new1 _ _), ⟨Nat.le_refl _, by omega, by omega⟩, (hb0.setCell (p := ⟨w.heap.size, 0, none⟩) (Nat.le_refl _) _).alloc (by rw [size_set]; omega) _⟩

/-- A net whose list of packets a loop collects. -/
structure ForkC (V : World) (fb : Nat) (nodes : Int) (m' : Nat) (ps : List Pkt) (xs : List (Int × Pkt)) (W : World) : Prop where
  row : ∃ a c, W.heap[fb]? = some (.cells #[.int .i64 nodes, .slice a xs.length c, .map (some m')] 67 (0, 0)) ∧ W.ownsRow V.heap.size 48 3 (.slice a xs.length c) xs.length (pkcells (xs.map (·.2)))
  keep : Keep (fun k => k = fb) V W
  bodies : ∀ x ∈ xs, Body W V.heap.size x.2
  are : xs.map (fun x => q x.2) = (ps.map q).take xs.length
theorem forkc_own (V : World) (fb : Nat) (nodes : Int) (m' : Nat) (ps : List Pkt) : OwnFrom V.heap.size (ForkC V fb nodes m' ps) := by
  intro s W W' row hs hg hr
  obtain ⟨⟨a, c, h1, h2⟩, h3, h4, h5⟩ := hs
  exact ⟨⟨a, c, blk_kept h1 hg (fun r e => (hr r e).2), own_grown h2 hg (fun r e => (hr r e).2)⟩, Keep.grown' h3 hg (fun j e => (hr j e).1), fun x hx => own_grown (h4 x hx) hg (fun r e => (hr r e).2), h5⟩
theorem forkc_start {V : World} {fb : Nat} {nodes : Int} {m' : Nat} {ps : List Pkt} (h : V.heap[fb]? = some (.cells #[.int .i64 nodes, .slice none 0 0, .map (some m')] 67 (0, 0))) : ForkC V fb nodes m' ps [] V :=
  ⟨⟨none, 0, h, World.ownsRow_nil _ _ _ _⟩, Keep.refl _ _, by simp, by simp⟩
theorem forkc_step {V W W1 : World} {fb : Nat} {nodes : Int} {m' : Nat} {ps : List Pkt} {pre : List (Int × Pkt)} {x : Int × Pkt} {a : Option Addr} {c : Nat} {o : Obj} {v' : Value} (hz : fb < V.heap.size)
    (h : ForkC V fb nodes m' ps pre W) (h1 : W.heap[fb]? = some (.cells #[.int .i64 nodes, .slice a pre.length c, .map (some m')] 67 (0, 0))) (h2 : W.ownsRow V.heap.size 48 3 (.slice a pre.length c) pre.length (pkcells (pre.map (·.2))))
    (hx : Body W V.heap.size x.2) (hq : (ps.map q)[pre.length]? = some (q x.2)) (hg : (W.alloc o).grownBy W1 (Value.slice a pre.length c).ownBlock) (hr : W1.ownsRow V.heap.size 48 3 v' (pre.length + 1) (pkcells (pre.map (·.2)) ++ x.2.cells)) :
    ∃ a' c', v' = .slice a' (pre.length + 1) c' ∧ W1.heap[fb]? = some (.cells #[.int .i64 nodes, .slice a pre.length c, .map (some m')] 67 (0, 0)) ∧ KeepsOthers W (W1.setCell ⟨fb, 1, none⟩ v') ∧ KpZ fb V.heap.size W (W1.setCell ⟨fb, 1, none⟩ v') ∧ ForkC V fb nodes m' ps (pre ++ [x]) (W1.setCell ⟨fb, 1, none⟩ v') := by
  obtain ⟨a', c', rfl⟩ := own_shape hr
  obtain ⟨-, h3, h4, h5⟩ := h
  have hrow : ∀ j, (Value.slice a pre.length c).ownBlock = some j → V.heap.size ≤ j := fun j e => (own_from h2 j (own_block h2 j e)).1
  have hVs := h3.size
  have hzb : fb < (W.alloc o).heap.size := by rw [size_new]; omega
  have hW1 : W1.heap[fb]? = some (.cells #[.int .i64 nodes, .slice a pre.length c, .map (some m')] 67 (0, 0)) := (hg.block fb hzb (fun e => by have := hrow fb e.symm; omega)).trans (hp_new h1)
  have hke : KeepsOthers W (W1.setCell ⟨fb, 1, none⟩ (.slice a' (pre.length + 1) c')) := by
    refine ((KeepsOthers.alloc W o).trans (KeepsOthers.of_grownBy hg ?_)).trans (KeepsOthers.setCell _ _ _)
    intro j ob e ho
    obtain ⟨cur, hcur⟩ := own_heap h2 j (own_block h2 j e)
    rw [hp_new hcur] at ho
    cases ho; rfl
  have hset : (W1.setCell ⟨fb, 1, none⟩ (.slice a' (pre.length + 1) c')).heap[fb]? = some (.cells #[.int .i64 nodes, .slice a' (pre.length + 1) c', .map (some m')] 67 (0, 0)) := hp_set hW1 1 _
  have hbody : ∀ p : Pkt, Body W V.heap.size p → Body (W1.setCell ⟨fb, 1, none⟩ (.slice a' (pre.length + 1) c')) V.heap.size p := by
    intro p hp
    refine own_kept hp (fun g hgp => ?_)
    obtain ⟨cur, hcur⟩ := own_heap hp g hgp
    have hgs := own_from hp g hgp
    refine (hp_set_ne (show g ≠ fb by omega)).trans ((hg.block g (by rw [size_new]; omega) (fun e => ?_)).trans (hp_alloc_old hgs.2))
    exact own_ne h2 hcur (by decide) g (own_block h2 g e.symm) rfl
  refine ⟨a', c', rfl, hW1, hke, ⟨?_, fun j h1 h2 => ?_⟩, ⟨⟨a', c', ?_, ?_⟩, (Keep.grown' (h3.alloc o) hg hrow).setCell (p := ⟨fb, 1, none⟩) (.inr rfl) _, fun y hy => ?_, ?_⟩⟩
  · rw [size_set]; have := hg.size; rw [size_new] at this; omega
  · exact (hp_set_ne h2).trans ((hg.block j (by rw [size_new]; omega) (fun e => by have := hrow j e.symm; omega)).trans (hp_alloc_old (by omega)))
  · rw [List.length_append]; exact hset
  · rw [List.length_append, List.map_append, pkcells_append]
    have e : pkcells (List.map (·.2) [x]) = x.2.cells := by simp [pkcells]
    rw [e]
    exact own_kept hr (fun g hg' => hp_set_ne (by have := (own_from hr g hg').1; show g ≠ fb; omega))
  · rcases List.mem_append.1 hy with hy | hy
    · exact hbody _ (h4 y hy)
    · rw [List.mem_singleton.1 hy]; exact hbody _ hx
  · rw [List.map_append, h5, List.length_append, List.length_singleton, List.take_add_one, hq]
    rfl

theorem goes {α : Type} {Kp : World → World → Prop} {I : List α → World → Prop} {xs : List α} {W W' : World} (a : Act) (h1 : KeepsOthers W W') (h2 : Kp W W') (h3 : I xs W') : Exit.inBlock 1 (goesOn Kp I xs W) .normal a W' := ⟨h1, h2, h3⟩

theorem fork_ok (w : World) (base b : Nat) (nodes : Int) (qs : List Q) (S : Cuts) (h : NetIs w base b nodes qs S) (hF : Fit qs) :
    Calls Try.prog 25 #[.pointer (some ⟨b, 0, none⟩)] w fun e w' => ∃ f, e = .returned (.pointer (some ⟨f, 0, none⟩)) ∧ NetIs w' w.heap.size f nodes qs S ∧ Below w.heap.size w w' := by
  obtain ⟨ps, hn, rfl⟩ := h
  have hlen : ps.length ≤ 256 := by have := hF.1; rwa [List.length_map] at this
  have hbl : ∀ p ∈ ps, p.l.length ≤ 16384 := fun p hp => hF.2 (q p) (List.mem_map_of_mem hp)
  have hn0 := hn
  obtain ⟨h1, ⟨a, c, mb, h2, h3, h4, h5⟩, h6⟩ := hn0
  obtain ⟨c0, c1, c2, f0, f1, f2, hz⟩ := blk3 h2
  have HMC := Lib.hid (fun W (hb : Below w.heap.size w W) => clone_cut W mb S (h4.below hb))
  clear h2 h3 h4 h5 h6
  refine (callsIn_wide (n := 5)).1 ?_
  refine callsIn_of_wp_marks Try.func25 rfl trivial ?_ rfl
  simp only [Try.ntmps25, List.size_toArray, List.length_cons, List.length_nil, Nat.reduceAdd, Nat.reduceSub, Array.replicate_succ, Array.replicate_zero, List.push_toArray, List.append_toArray, List.nil_append, List.cons_append]
  gi_wp2
  have hB1 := below_drewN (Below.refl w.heap.size w) 1
  have hB2 := below_step hB1 (below_new1 (w.drewN 1) (.cells #[.pointer none] 24))
  have HC1 := Lib.hid (HMC.out _ hB1)
  have HC2 := Lib.hid (HMC.out _ hB2)
  have hx : ∀ wn, Below ((w.drewN 1).alloc (.cells #[.pointer none] 24)).heap.size ((w.drewN 1).alloc (.cells #[.pointer none] 24)) wn → wn.heap[w.heap.size]? = some (.cells #[.pointer none] 24 (0, 0)) := fun wn hb => hp_step (hp_alloc_new (w.drewN 1) (.cells #[.pointer none] 24)) hb
  have HX := Lib.hid hx
  clear hx
  refine Code.wpIn_mono (Q := fun ex act W => ex = .normal ∧ ∃ zb fb m', act = { tmps := #[.pointer (some ⟨b, 0, none⟩), undef, .pointer none, .pointer (some ⟨zb, 0, none⟩), undef, undef, .pointer (some ⟨b, 0, none⟩), .bool false, .pointer (some ⟨b, 0, none⟩), .pointer (some ⟨b, 0, none⟩), .pointer (some ⟨b, 0, none⟩), .int .i64 nodes, .pointer (some ⟨b, 0, none⟩), .pointer (some ⟨b, 0, none⟩), .pointer (some ⟨b, 2, none⟩), .map (some mb), .map (some m'), .agg #[.int .i64 nodes, .slice none 0 0, .map (some m')], .pointer (some ⟨fb, 0, none⟩), undef, undef, undef, undef, undef, undef, undef, undef, undef, undef, undef, undef, undef, undef, undef], defers := [] } ∧ Made w W nodes S zb fb m') ?imp ?reg
  case reg =>
    refine Code.wpIn_mono NoPanic.imp ?_
    gi_region_with (first | (refine ⟨trivial, ?_⟩; gi_at_call 39; refine (callsIn_wide.2 HC2.out).mono ?_; rintro e wn ⟨rfl, hcm, hbn, hsn⟩; obtain ⟨x0, x1, x2⟩ := blk1 (HX.out _ hbn); have e0 := cell_step c0 (below_step hB2 hbn)) | (refine ⟨trivial, ?_⟩; gi_at_call 39; refine (callsIn_wide.2 HC1.out).mono ?_; rintro e wn ⟨rfl, hcm, hbn, hsn⟩; have e0 := cell_step c0 (below_step hB1 hbn)))
    all_goals
      refine NoPanic.normal ?_
      refine ⟨rfl, _, _, _, rfl, ?_⟩
      first | exact made1 hB1 hbn hsn hcm | exact made2 hB1 hbn hsn hcm | exact made3 hB2 hbn hsn hcm (HX.out _ hbn)
  case imp =>
    rintro ex act W ⟨rfl, zb, fb, m', rfl, hM⟩
    obtain ⟨hbox, hnet, hcut, ⟨hz1, hz2, hz3⟩, hbW⟩ := hM
    gi_wp2
    refine ⟨trivial, ?_⟩
    refine (callsIn_wide.2 (all_some W base b nodes ps S (hn.below hbW) hlen)).mono ?_
    rintro e w4 ⟨B, a4, c4, rfl, hB, hBb, hrow, hb4⟩
    have hs4 := hb4.size
    have hzb := (blk1 hbox).2.2
    have hfb := (blk3 hnet).2.2.2.2.2.2
    have hne : zb ≠ fb := fun e => by rw [e] at hbox; rw [hbox] at hnet; simp at hnet
    have hBz4 := (blk1 hBb).2.2
    have hit : ItP w4 fb w4.heap.size B ps := by
      refine ⟨⟨a4, c4, hBb, own_mono hrow (Nat.zero_le _), fun g hg => ?_⟩, ⟨hBz4, by omega⟩, fun p hp => ?_, hlen⟩
      · have := own_from hrow g hg
        exact ⟨this.2, by omega⟩
      · have hbp := hn.bodies p hp
        refine ⟨own_mono (own_below (own_below hbp hbW) hb4) (Nat.zero_le _), fun g hg => ?_, hbl p hp⟩
        have := own_from hbp g hg
        have := hbW.size
        exact ⟨by omega, by omega⟩
    have hbox4 := hp_step hbox hb4
    have hnet4 := hp_step hnet hb4
    have hcut4 := hcut.below hb4
    have hBw : Below w.heap.size w w4 := below_step hbW hb4
    have hm4 := hcut.lt
    clear hbox hnet hcut hrow hBb hbl hB
    gi_wp2
    have hz4 : fb < w4.heap.size := by omega
    refine range_all rfl (by omega) (gf := 41) (lb := #[.pointer (some ⟨B, 0, none⟩)]) rfl trivial (enters_of Try.func41 (by kernel_rfl) rfl)
      (all_it 4 (by omega) _ _ B ps w4 hit (Nat.le_refl _)) KpZ.trans (fun W l o hl => KpZ.put (Nat.le_refl _) W l o hl) (fun W o hW => KpZ.of_below (below_new1 W o) hW) (good_put w4 ps) (fun pre x W o hg => good_alloc hg o) (Below.refl _ _) (fun _ => rfl)
      (ForkC w4 fb nodes m' ps) (forkc_own w4 _ _ _ ps) (forkc_start hnet4) (fun x A => { tmps := #[.pointer (some ⟨b, 0, none⟩), undef, .pointer none, .pointer (some ⟨zb, 0, none⟩), undef, .pointer (some ⟨A, 0, none⟩), .pointer (some ⟨b, 0, none⟩), .bool false, .pointer (some ⟨b, 0, none⟩), .pointer (some ⟨b, 0, none⟩), .pointer (some ⟨b, 0, none⟩), .int .i64 nodes, .pointer (some ⟨b, 0, none⟩), .pointer (some ⟨b, 0, none⟩), .pointer (some ⟨b, 2, none⟩), .map (some mb), .map (some m'), .agg #[.int .i64 nodes, .slice none 0 0, .map (some m')], .pointer (some ⟨fb, 0, none⟩), .pointer (some ⟨b, 0, none⟩), .func (.func 41) #[] #[.pointer (some ⟨B, 0, none⟩)], .int .i64 x.1, x.2.val, undef, undef, undef, undef, undef, undef, undef, undef, undef, undef, undef], defers := [] }) (fun x => .cells #[.int .i64 x.2.f, .int .i64 x.2.t, .slice x.2.a x.2.l.length x.2.c] 48) ?assign ?body ?done
    case assign =>
      intro l x W K hK
      simp only [Pkt.val]
      gi_wp2
      simpa [Pkt.val] using hK
    case body =>
      rintro l pre x A W hA hbA hC ⟨hx1, hx2, hx3⟩
      have hlt : pre.length < ps.length := by have := (List.getElem?_eq_some_iff.1 hx2).1; rwa [List.length_map] at this
      obtain ⟨⟨a', c', hb, hr⟩, hKp, hbd, hare⟩ := id hC
      obtain ⟨j0, hj, hy0, hy1, hy2⟩ := info_parts infoPkt
      have hKs := hKp.size
      have hdr : Below W.heap.size W (W.drewN 1) := below_drewN (Below.refl _ W) 1
      obtain ⟨v5, w5, hrun, hown5, hgr5, _⟩ := run_append_own (P := Try.prog) ((W.drewN 1).alloc (.cells #[.int .i64 x.2.f, .int .i64 x.2.t, .slice x.2.a x.2.l.length x.2.c] 48)) w4.heap.size 43 43 48 j0 (.agg #[.int .i64 0, .int .i64 0, .slice none 0 0]) 3 40 Try.underlying43 hj hy0 hy1 hy2 rfl (by decide) (.slice a' pre.length c') pre.length (pkcells (pre.map (·.2))) ((own_below hr hdr).alloc _) ⟨W.heap.size, 0, none⟩ 1 1 x.2.cells rfl (lie_adds (lie_new3 (W.drewN 1) _ _ _ _)) (by simp [Pkt.cells, Value.oneCell']) (by unfold maxLen; omega) (by omega) (by rw [size_new]; show w4.heap.size ≤ W.heap.size + 1; omega)
      have hbW0 := hKp.hp hbox4 hne
      have hb5 : w5.heap[zb]? = some (.cells #[.pointer (some ⟨fb, 0, none⟩)] 24 (0, 0)) := (hgr5.block zb (by rw [size_new]; show zb < W.heap.size + 1; omega) (fun e => by have := (own_from hr zb (own_block hr zb e.symm)).1; omega)).trans (hp_new (show (W.drewN 1).heap[zb]? = _ from hbW0))
      obtain ⟨s0, s1, s2⟩ := blk1 hb5
      obtain ⟨a5, c5, rfl, hW1, hke, hbt, hco⟩ := forkc_step hz4 (forkc_own w4 _ _ _ ps pre W _ none hC (by exact ⟨rfl, rfl, rfl, Nat.le_refl _, fun _ _ _ => rfl⟩) (fun r e => by cases e) : ForkC w4 fb nodes m' ps pre (W.drewN 1)) hb (own_below hr hdr) (own_below hx3 hdr) hx2 hgr5 hown5
      have hrun' : (Builtin.append_ #[43, 43] 43 #[.slice a' pre.length c', .slice (some ⟨W.heap.size, 0, none⟩) 1 1]).run Try.prog ((W.alloc (.cells #[.int .i64 x.2.f, .int .i64 x.2.t, .slice x.2.a x.2.l.length x.2.c] 48)).drew) = .ok (.slice a5 (pre.length + 1) c5) w5 := hrun
      clear hrun
      obtain ⟨e0, e1, e2, k0, k1, k2, ez⟩ := blk3 hW1
      obtain ⟨q0, q1, q2⟩ := blk1 hbW0
      obtain ⟨d0, d1, d2, g0, g1, g2, dz⟩ := blk3 hb
      obtain ⟨p0, p1, p2, _, _, _, pz⟩ := blk3 hbA
      have HKE := Lib.hid (show KeepsOthers W _ from ⟨hke.size, hke.same⟩)
      have HBT := Lib.hid (show KpZ fb w4.heap.size W _ from ⟨hbt.1, hbt.2⟩)
      have HCO := Lib.hid hco
      clear hb5 hbW0 hb hr hKp hbd hare hbA hx1 hx2 hx3 hown5 hgr5 hW1 hke hbt hco hC
      gi_wp2
      gi_region_with (fail)
      all_goals exact goes _ HKE.out HBT.out HCO.out
    case done =>
      rintro D xs W hD hxs hC hK
      obtain ⟨⟨a', c', hb, hr⟩, hKp, hbd, hare⟩ := hC
      rw [hxs, List.take_of_length_le (by simp)] at hare
      have hbW0 := hKp.hp hbox4 hne
      have hmne : m' ≠ fb := fun e => by obtain ⟨es, cl, hm, _⟩ := hcut4; rw [e, hnet4] at hm; simp at hm
      have hcutW : CutAt W m' S := hcut4.to (hKp.block m' (by omega) hmne)
      have hBW : Below w.heap.size w W := hBw.trans (hKp.below (by omega) (fun k hk => by omega))
      obtain ⟨s0, s1, s2⟩ := blk1 hbW0
      have hkeep : ∀ k, k ≠ D → k < W.heap.size → (W.putObj D (.deferred none)).heap[k]? = W.heap[k]? := fun k hk hz => (grownBy_putObj' W D (.deferred none)).block k hz (fun e => hk (Option.some.inj e))
      have hcell : ∀ (k : Nat) (cs : Array Value) (T : TypeId), W.heap[k]? = some (Obj.cells cs T (0, 0)) → (W.putObj D (.deferred none)).heap[k]? = W.heap[k]? := fun k cs T h => hkeep k (fun e => by rw [e, hK] at h; simp at h) (blk h).2.2
      have hN : NetAt (W.putObj D (.deferred none)) w.heap.size fb nodes (xs.map (·.2)) S := by
        refine ⟨hz2, ⟨a', c', m', by rw [List.length_map]; exact (hcell _ _ _ hb).trans hb, hz3, hcutW.to (hkeep m' (fun e => by obtain ⟨es, cl, hm, _⟩ := hcutW; rw [e, hK] at hm; simp at hm) hcutW.lt), ?_⟩, fun p hp => ?_⟩
        · rw [List.length_map]
          refine own_mono (own_kept hr (fun g hg => ?_)) (by omega)
          obtain ⟨cur, hcur⟩ := own_heap hr g hg
          exact hcell g _ _ hcur
        · obtain ⟨x, hx, rfl⟩ := List.mem_map.1 hp
          refine own_mono (own_kept (hbd x hx) (fun g hg => ?_)) (by omega)
          obtain ⟨cur, hcur⟩ := own_heap (hbd x hx) g hg
          exact hcell g _ _ hcur
      have hBE : Below w.heap.size w (W.putObj D (.deferred none)) := hBW.grown (grownBy_putObj' W D (.deferred none)) hBW.size (fun j hj => by simp at hj; omega)
      have HN := Lib.hid (show NetIs (W.putObj D (.deferred none)) w.heap.size fb nodes (ps.map q) S from ⟨_, hN, by rw [List.map_map]; exact hare⟩)
      have HBE := Lib.hid hBE
      have HK := Lib.hid hK
      clear hb hr hKp hbd hare hbW0 hcutW hBW hkeep hcell hN hBE hn hit hbox4 hnet4 hcut4
      gi_wp2
      refine ⟨by simp, .inl ⟨_, _, rfl, run_takeDeferred HK.out, ?_⟩⟩
      exact ⟨_, results_tmp rfl _ _ _, _, rfl, HN.out, HBE.out⟩
end Go.Proofs.Ytnnfagdhigodbaa.netfo
