/-
  The statement ChunkForks: a fork is alike, and neither shows what is done to the other; a box that is cleared is as a new one; a nil box.
-/
import Derived.Test.YtgpkenbefolegaaDoorPieces
import Derived.Test.YtgpkenbefolegaaDoorAwake
import Derived.Test.YtgpkenbefolegaaDoorFork
import Derived.Test.YtgpkenbefolegaaDoorRows
import Derived.Test.YtgpkenbefolegaaDoorCards
import Derived.Test.YtgpkenbefolegaaDoorTie
namespace Go.Proofs.YtgpkenbefolegaaDoor.chunkForks
open Go.ChangeShapes Go.WideShapes Go.ChangeAt Go.RowKit
open Go.Proofs.YtgpkenbefolegaaDoor.kit Go.Proofs.YtgpkenbefolegaaDoor.mapkit Go.Proofs.YtgpkenbefolegaaDoor.byt Go.Proofs.YtgpkenbefolegaaDoor.sum Go.Proofs.YtgpkenbefolegaaDoor.cut Go.Proofs.YtgpkenbefolegaaDoor.laid Go.Proofs.YtgpkenbefolegaaDoor.box
set_option linter.unusedVariables false
set_option linter.unusedSimpArgs false
set_option maxHeartbeats 2000000
set_option maxRecDepth 100000

theorem notInt {w : World} {base b m : Nat} {V : BoxV} (h : BoxAt w base b m V) : ∀ k cur, w.heap[k]? = some (.cells cur 3 (0, 0)) → ¬ (k = b ∨ k = m) := by
  intro k cur hh hkk
  obtain ⟨f, hm, _⟩ := h.map
  obtain ⟨es, clock, he⟩ := hm.obj
  rcases hkk with rfl | rfl
  · rw [h.blk] at hh
    simp at hh
  · rw [he] at hh
    cases hh
theorem ints_lie {w : World} {base : Nat} {a : Option Addr} {c : Nat} {l : List Nat} (h : IntsAt w base (.slice a l.length c) l) : Lie w a (icells l) := by
  obtain ⟨ao, cap, e1, e2, e3, e4⟩ := owned_lie h
  simp only [Value.slice.injEq, true_and] at e1
  rw [e1.1]
  exact e3
theorem byte_lie {w : World} {base : Nat} {a : Option Addr} {n c : Nat} {l : List Nat} (hn : n = l.length) (h : w.ownsRow base 5 1 (.slice a n c) l.length (bcells l)) : Lie w a (bcells l) := by
  obtain ⟨ao, cap, e1, e2, e3, e4⟩ := owned_lie h
  simp only [Value.slice.injEq] at e1
  rw [e1.1]
  exact e3

theorem walk_ok (L : List PieceV) (a : Option Addr) (cap : Nat) (M : List PieceV) (ma : Option Addr) (mcap : Nat) (w : World) (hlc : L.length ≤ cap) (hcm : cap ≤ 9223372036854775807) (hlm : M.length ≤ mcap) (hmm : mcap ≤ 9223372036854775807) (ht : Tab w) (hat : PinAt w a L) (hgood : ∀ p ∈ L, GoodP w p) (hmt : PinAt w ma M) (hmood : ∀ p ∈ M, GoodP w p) :
    Calls Tryd.prog 8 #[.slice a L.length cap, .slice ma M.length mcap] w fun e w' => e = .returned (.bool true) ∧ Below w.heap.size w w' := by
  have HAT := Lib.hid hat
  have HG := Lib.hid hgood
  have HMT := Lib.hid hmt
  have HMG := Lib.hid hmood
  have HT := Lib.hid ht
  clear hat hgood ht hmt hmood
  go_enter Tryd.func8, Tryd.ntmps8
  go_wp2_with fail
  refine (new_ok _).mono ?_; rintro e w1 ⟨b, m, rfl, hbox, hb1⟩
  have HB1 := Lib.hid hbox
  clear hbox
  go_wp2_with fail
  refine (awake_ok _ (cut.Tab.below HT.out hb1)).mono ?_; rintro e w2 ⟨rfl, hb2⟩
  have hB2 : Below w.heap.size w w2 := below_step hb1 hb2
  have HB2 := Lib.hid (HB1.out.below hb2)
  go_wp2_with fail
  go_loopw [6] (fun i wr => ∃ (k : Nat) (V : BoxV), k ≤ L.length ∧ i = .int .i64 k ∧ Hid (BoxAt wr w.heap.size b m V) ∧ Below w.heap.size w wr) (fun i _ => L.length - (intOf i).toNat)
  case atStart => exact ⟨0, _, Nat.zero_le _, rfl, HB2, hB2⟩
  case round =>
    obtain ⟨k, V, hk, rfl, hbx, hb⟩ := hrel
    by_cases hlt : k < L.length
    · obtain ⟨g, off, rfl, hg, hc⟩ := PinAt.cells HAT.out (by intro e; rw [e] at hlt; simp at hlt)
      obtain ⟨c0, c1, c2, c3⟩ := hc k hlt
      obtain ⟨p, hp⟩ : ∃ p, p = L[k] := ⟨_, rfl⟩
      rw [← hp] at c0 c1 c2 c3
      rw [← (bcell hb).1 _ _ hg] at c0 c1 c2 c3
      have hgp := (HG.out p (by rw [hp]; exact List.getElem_mem hlt)).below hb
      have hC := put_any p wr w.heap.size b m V hbx.out hb.size hgp
      unfold pval at hC
      have HC := Lib.hid hC
      have hlt2 : (k : Int) < (L.length : Int) := by omega
      have hk0 : (0 : Int) ≤ (k : Int) := by omega
      clear hc hp hgp hC
      go_wp2_with fail
      refine HC.out.mono ?_; rintro e w3 ⟨rfl, hbx3, hk3⟩
      have hbn : Below w.heap.size w w3 := hb.trans (hk3.below hb.size (fun j hj => by have := hbx.out.lob; have := hbx.out.lom; omega))
      have HB3 := Lib.hid hbx3
      clear hbx3 hk3
      go_wp2_with fail
      go_roundw
      case rel => exact ⟨k + 1, _, by omega, by go_num, HB3, hbn⟩
      case measure => simp [intOf]; omega
    · go_wp2_with fail
      refine (fork_ok wr w.heap.size b m V hbx.out hb.size).mono ?_; rintro e w3 ⟨bf, mf, rfl, hbf, hmf, hfk, hb3⟩
      have hB3 : Below w.heap.size w w3 := below_step hb hb3
      have HFK := Lib.hid hfk
      have HBX3 := Lib.hid (hbx.out.below hb3)
      have hdis : b < wr.heap.size ∧ m < wr.heap.size := ⟨hbx.out.lt.1, hbx.out.lt.2.1⟩
      clear hfk
      obtain ⟨mv, hmv⟩ : ∃ n, n = (missV V).length := ⟨_, rfl⟩
      have hMISS : ∀ W b' m', BoxAt W w.heap.size b' m' V → Calls Tryd.prog 20 #[.pointer (some ⟨b', 0, none⟩)] W fun e w' => ∃ a' c', e = .returned (.slice a' mv c') ∧ IntsAt w' W.heap.size (.slice a' (missV V).length c') (missV V) ∧ Below W.heap.size W w' := by
        intro W b' m' h
        refine (miss_ok W _ b' m' V h).mono ?_
        rintro e w' ⟨v, rfl, h1, h2⟩
        obtain ⟨a', c', rfl, _⟩ := own_shape h1
        exact ⟨a', c', by rw [hmv], h1, h2⟩
      have HMISS := Lib.hid hMISS
      have hPL : ∀ W a1 c1 a2 c2, Lie W a1 (icells (missV V)) → Lie W a2 (icells (missV V)) → Calls Tryd.prog 22 #[.slice a1 mv c1, .slice a2 mv c2] W fun e w' => e = .returned (.bool true) ∧ Below W.heap.size W w' := by
        intro W a1 c1 a2 c2 h1 h2
        have hs : sameB (missV V) (missV V) = true := by simp [sameB]
        have hl : (missV V).length ≤ 9223372036854775807 := by
          unfold missV
          split
          · simp
          · have := List.length_filter_le (fun i => (V.get i).isNone) (List.range V.tot.toNat)
            have h3 := hbx.out.wf.le
            simp only [List.length_range] at this
            omega
        have := plainI_any (missV V) (missV V) a1 a2 c1 c2 W hl h1 h2
        rw [hs, ← hmv] at this
        exact this
      have HPL := Lib.hid hPL
      clear hMISS hPL hmv
      go_wp2_with fail
      refine (HMISS.out w3 bf mf HFK.out).mono ?_; rintro e w4 ⟨fa, fc, rfl, hfm, hb4⟩
      go_wp2_with fail
      refine (HMISS.out w4 b m (HBX3.out.below hb4)).mono ?_; rintro e w5 ⟨ba, bc, rfl, hbm, hb5⟩
      have hB5 : Below w.heap.size w w5 := below_step (below_step hB3 hb4) hb5
      have hl1 := ints_lie hfm
      have hl2 := ints_lie hbm
      have hcp := HPL.out w5 fa fc ba bc (hl1.below hb5) hl2
      have HCP := Lib.hid hcp
      clear hl1 hl2 hfm hbm hcp
      go_wp2_with fail
      refine HCP.out.mono ?_; rintro e w6 ⟨rfl, hb6⟩
      have hb36 : Below w3.heap.size w3 w6 := below_step (below_step hb4 hb5) hb6
      have hB6 : Below w.heap.size w w6 := below_step hB3 hb36
      go_wp2_with fail
      refine (HMISS.out w6 b m (HBX3.out.below hb36)).mono ?_; rintro e w7 ⟨la, lc, rfl, hlk, hb7⟩
      have hs6 := hB6.size
      have HLK := Lib.hid (own_mono hlk hs6)
      obtain ⟨D, hD⟩ : ∃ D, D = (doneV V).getD [] := ⟨_, rfl⟩
      obtain ⟨ok, hok⟩ : ∃ b, b = (doneV V).isSome := ⟨_, rfl⟩
      obtain ⟨dl, hdl⟩ : ∃ n, n = D.length := ⟨_, rfl⟩
      have hD8 : D.length ≤ 9223372036854775807 := by
        rw [hD]
        cases hdv : doneV V with
        | none => simp
        | some x => have := (done_len hbx.out.wf hdv).1; simp; omega
      have hDN : ∀ W, BoxAt W w.heap.size b m V → Tab W → Calls Tryd.prog 18 #[.pointer (some ⟨b, 0, none⟩)] W fun e w' => ∃ a' c', e = .returned (.tuple #[.slice a' dl c', .bool ok]) ∧ w'.ownsRow W.heap.size 5 1 (.slice a' dl c') D.length (bcells D) ∧ Below W.heap.size W w' := by
        intro W h1 h2
        refine (done_ok W _ b m V h1 h2).mono ?_
        rintro e w' ⟨v, rfl, h3, h4⟩
        rw [← hD] at h3
        obtain ⟨a', c', rfl, _⟩ := own_shape h3
        exact ⟨a', c', by rw [← hok, hdl], by rw [hdl]; exact h3, h4⟩
      have HDN := Lib.hid hDN
      have hB7 : Below w.heap.size w w7 := below_step hB6 hb7
      have hb37 : Below w3.heap.size w3 w7 := below_step hb36 hb7
      clear hlk hDN hD hok
      have HDL := Lib.hid hdl
      clear hdl
      go_wp2_with fail
      refine (HDN.out w7 (HBX3.out.below hb37) (cut.Tab.below HT.out hB7)).mono ?_; rintro e w8 ⟨xa, xc, rfl, hx, hb8⟩
      have hs7 := hB7.size
      have HX := Lib.hid (own_mono hx hs7)
      have hB8 : Below w.heap.size w w8 := below_step hB7 hb8
      have hb38 : Below w3.heap.size w3 w8 := below_step hb37 hb8
      have HLK8 := Lib.hid (own_below HLK.out hb8)
      clear hx
      go_wp2_with fail
      refine (clear_ok w8 w.heap.size bf mf V (HFK.out.below hb38)).mono ?_; rintro e w9 ⟨rfl, hf9, hk9⟩
      have hs3 := hb3.size
      have hbf2 : b ≠ bf ∧ b ≠ mf ∧ m ≠ bf ∧ m ≠ mf := by omega
      have HF9 := Lib.hid hf9
      have HB9 := Lib.hid ((HBX3.out.below hb38).keep hk9 (by omega) (by omega) (HFK.out.below hb38).notByte)
      have HX9 := Lib.hid (own_keep' HX.out hk9 (HFK.out.below hb38).notByte)
      have HL9 := Lib.hid (own_keep' HLK8.out hk9 (notInt (HFK.out.below hb38)))
      have hwr := hb.size
      have hB9 : Below w.heap.size w w9 := hB8.trans (hk9.below hB8.size (fun j hj => by omega))
      clear hf9 hk9
      go_wp2_with fail
      go_loopw [11] (fun i wq => ∃ (k : Nat) (VF : BoxV), k ≤ M.length ∧ i = .int .i64 k ∧ Hid (BoxAt wq w.heap.size bf mf VF) ∧ Hid (BoxAt wq w.heap.size b m V) ∧ Hid (wq.ownsRow w.heap.size 5 1 (.slice xa dl xc) D.length (bcells D)) ∧ Hid (wq.ownsRow w.heap.size 3 1 (.slice la (missV V).length lc) (missV V).length (icells (missV V))) ∧ Below w.heap.size w wq) (fun i _ => M.length - (intOf i).toNat)
      case atStart => exact ⟨0, _, Nat.zero_le _, rfl, HF9, HB9, HX9, HL9, hB9⟩
      case round =>
        obtain ⟨k, VF, hk, rfl, hfx, hbx, hxr, hlr, hb⟩ := hrel
        by_cases hlt : k < M.length
        · obtain ⟨g, off, rfl, hg, hc⟩ := PinAt.cells HMT.out (by intro e; rw [e] at hlt; simp at hlt)
          obtain ⟨c0, c1, c2, c3⟩ := hc k hlt
          obtain ⟨p, hp⟩ : ∃ p, p = M[k] := ⟨_, rfl⟩
          rw [← hp] at c0 c1 c2 c3
          rw [← (bcell hb).1 _ _ hg] at c0 c1 c2 c3
          have hgp := (HMG.out p (by rw [hp]; exact List.getElem_mem hlt)).below hb
          have hC := put_any p wr w.heap.size bf mf VF hfx.out hb.size hgp
          unfold pval at hC
          have HC := Lib.hid hC
          have hlt2 : (k : Int) < (M.length : Int) := by omega
          have hk0 : (0 : Int) ≤ (k : Int) := by omega
          clear hc hp hgp hC
          go_wp2_with fail
          refine HC.out.mono ?_; rintro e wz ⟨rfl, hfz, hkz⟩
          have hbz : Below w.heap.size w wz := hb.trans (hkz.below hb.size (fun j hj => by omega))
          have HFZ := Lib.hid hfz
          have HBZ := Lib.hid (hbx.out.keep hkz (by omega) (by omega) hfx.out.notByte)
          have HXZ := Lib.hid (own_keep' hxr.out hkz hfx.out.notByte)
          have HLZ := Lib.hid (own_keep' hlr.out hkz (notInt hfx.out))
          clear hfz hkz
          go_wp2_with fail
          go_roundw
          case rel => exact ⟨k + 1, _, by omega, by go_num, HFZ, HBZ, HXZ, HLZ, hbz⟩
          case measure => simp [intOf]; omega
        · go_wp2_with fail
          refine (HDN.out wr hbx.out (cut.Tab.below HT.out hb)).mono ?_; rintro e v1 ⟨ya, yc, rfl, hy, hc1⟩
          have hbx1 := hbx.out.below hc1
          have HBX1 := Lib.hid hbx1
          have HY1 := Lib.hid (byte_lie HDL.out hy)
          have HX1 := Lib.hid ((byte_lie HDL.out hxr.out).below hc1)
          have HL1 := Lib.hid (Lie.below (ints_lie hlr.out) hc1)
          clear hy hbx1
          go_wp2_with fail
          refine (HMISS.out v1 b m HBX1.out).mono ?_; rintro e v2 ⟨ka, kc, rfl, hkm, hc2⟩
          have hc12 : Below wr.heap.size wr v2 := below_step hc1 hc2
          have hcp := HPL.out v2 ka kc la lc (ints_lie hkm) (HL1.out.below hc2)
          have HCP2 := Lib.hid hcp
          clear hkm hcp
          go_wp2_with fail
          refine HCP2.out.mono ?_; rintro e v3 ⟨rfl, hc3⟩
          have hc13 : Below wr.heap.size wr v3 := below_step hc12 hc3
          have hby : Calls Tryd.prog 21 #[.slice xa dl xc, .slice ya dl yc] v3 fun e w' => e = .returned (.bool true) ∧ Below v3.heap.size v3 w' := by
            have hs : sameB D D = true := by simp [sameB]
            have := bytes_any D D xa ya xc yc v3 hD8 (HX1.out.below (below_step hc2 hc3)) (HY1.out.below (below_step hc2 hc3))
            rw [hs, ← HDL.out] at this
            exact this
          have HBY := Lib.hid hby
          clear hby
          go_wp2_with fail
          refine HBY.out.mono ?_; rintro e v4 ⟨rfl, hc4⟩
          have hc14 : Below wr.heap.size wr v4 := below_step hc13 hc4
          go_wp2_with fail
          refine (clear_ok v4 w.heap.size b m V (hbx.out.below hc14)).mono ?_; rintro e v5 ⟨rfl, hb5e, hk5⟩
          have hB4 : Below w.heap.size w v4 := below_step hb hc14
          have hbl := hbx.out.lob
          have hml := hbx.out.lom
          have hB5e : Below w.heap.size w v5 := hB4.trans (hk5.below hB4.size (fun j hj => by omega))
          have HB5 := Lib.hid hb5e
          clear hb5e hk5
          go_wp2_with fail
          refine (nil_clear v5).mono ?_; rintro e v6 ⟨rfl, rfl⟩
          go_wp2_with fail
          refine (nil_done v5).mono ?_; rintro e v7 ⟨rfl, hc7⟩
          have hB7e : Below w.heap.size w v7 := below_step hB5e hc7
          go_wp2_with fail
          have hme := miss_ok v7 w.heap.size b m empty (HB5.out.below hc7)
          have hm0 : missV empty = [0] := by unfold missV; rw [if_pos empty_cnt]
          unfold MissIs IntsAt at hme
          rw [hm0] at hme
          refine hme.mono ?_; rintro e v8 ⟨vm, rfl, hvm, hc8⟩
          obtain ⟨za, zc, rfl, _⟩ := own_shape hvm
          have hB8e : Below w.heap.size w v8 := below_step hB7e hc8
          have hz := ints_lie (l := [0]) hvm
          have hpl : Calls Tryd.prog 22 #[.slice za 1 zc, .slice (some ⟨v8.heap.size, 0, none⟩) 1 1] (v8.alloc (.cells #[.int .i64 0] 3)) fun e w' => e = .returned (.bool true) ∧ Below (v8.alloc (.cells #[.int .i64 0] 3)).heap.size (v8.alloc (.cells #[.int .i64 0] 3)) w' := by
            have := plainI_any [0] [0] za (some ⟨v8.heap.size, 0, none⟩) zc 1 (v8.alloc (.cells #[.int .i64 0] 3)) (by simp) (hz.below (below_new1 _ _)) (.inr ⟨_, 0, rfl, by rw [size_new]; omega, fun i hi => by rw [Nat.zero_add, (blk (hp_alloc_new _ _)).1]; match i, hi with | 0, _ => rfl⟩)
            exact this
          have HPZ := Lib.hid hpl
          clear hpl hz hvm hme hm0
          go_wp2_with fail
          refine HPZ.out.mono ?_; rintro e v9 ⟨rfl, hc9⟩
          have hB9e : Below w.heap.size w v9 := below_step (hB8e.alloc hB8e.size _) hc9
          go_wp2_with fail
          refine (nil_put ⟨0, 1, 0, none, 0, []⟩ v9).mono ?_; rintro e va ⟨rfl, hca⟩
          have hBa : Below w.heap.size w va := below_step hB9e hca
          go_wp2_with fail
          refine (nil_miss va).mono ?_; rintro e vb ⟨rfl, rfl⟩
          go_wp2_with fail
          refine (nil_fork va).mono ?_; rintro e vc ⟨rfl, rfl⟩
          go_wp2_with fail
          go_ret
          exact ⟨rfl, hBa⟩

theorem lawWalk {H : Type} (enc : TypeId × Value → H) (W : World) (base : Nat) (args : Array Value) (ds : List (DataW H)) (p : List MemPlace)
    (hval : ∀ (j : Nat) t v, Tryd.f8.params[j]? = some t → args[j]? = some v → Value.okWide Tryd.prog W .any base t v)
    (hA : DataW.TrodAll enc Tryd.prog W 0 (fun _ => true) true Tryd.f8.params.toList args.toList ds p)
    (hsz : (DataW.weightsEach Tryd.prog Tryd.f8.params.toList ds).all (· ≤ reachBytes) = true) (ht : Tab W) :
    Calls Tryd.prog 8 args W fun e w' => e = .returned (.bool true) ∧ Below W.heap.size W w' := by
  rw [Tryd.params8] at hA hval hsz
  obtain ⟨v0, vs0, d0, ds0, p0, q0, hargs, rfl, rfl, h0, r0⟩ := trodAll_cons hA
  obtain ⟨v1, vs1, d1, ds1, p1, q1, rfl, rfl, rfl, h1, r1⟩ := trodAll_cons r0
  obtain ⟨rfl, rfl, rfl⟩ := trodAll_nil r1
  obtain rfl : args = #[v0, v1] := by cases args; simp_all
  obtain ⟨a, L, cap, es, sp, rfl, hlc, hcm, hn, hat, hd, hel, hsp, hgood⟩ := open_slice_gen 4 pcells (fun p d => GoodP W p ∧ DataIs p d) Tryd.underlying24 (by kernel_rfl) (by omega) (fun n cs y _ h => elem_piece n cs y h) (hval 0 24 v0 rfl rfl) h0
  obtain ⟨ma, M, mcap, es2, sp2, rfl, hlm, hmm, hn2, hmt, hd2, hel2, hsp2, hmood⟩ := open_slice_gen 4 pcells (fun p d => GoodP W p ∧ DataIs p d) Tryd.underlying24 (by kernel_rfl) (by omega) (fun n cs y _ h => elem_piece n cs y h) (hval 1 24 v1 rfl rfl) h1
  refine walk_ok L a cap M ma mcap W hlc (by unfold maxLen at hcm; omega) hlm (by unfold maxLen at hmm; omega) ht hat (fun p hp => ?_) hmt (fun p hp => ?_)
  · obtain ⟨i, hi, rfl⟩ := List.getElem_of_mem hp
    exact (hgood i hi (by omega)).1
  · obtain ⟨i, hi, rfl⟩ := List.getElem_of_mem hp
    exact (hmood i hi (by omega)).1

theorem laid_met (os : Os) : laidMet Tryd.prog Rows.chunkForksRow.laid ((laidWorld os).forCall (fun _ _ => 0) ⟨#[], #[.slice none 0 0, .slice none 0 0], []⟩).memory :=
  laidMet_of_run' 8 (by kernel_rfl) (by kernel_rfl)
theorem reads (os : Os) {H : Type} (enc : TypeId × Value → H) : ∃ places, DataW.whole enc Tryd.prog ((laidWorld os).forCall (fun _ _ => 0) ⟨#[], #[.slice none 0 0, .slice none 0 0], []⟩).memory Tryd.f8.params.toList Rows.chunkForksSpec.vars false (#[.slice none 0 0, .slice none 0 0] : Array Value).toList 8 = some ([.nil, .nil], [], places) :=
  ⟨[], by kernel_rfl⟩

set_option maxRecDepth 100000 in
theorem lifted (os : Os) (started : os.Started) (H : Type) (enc : TypeId × Value → H) (F : Stop.Interp) :
    ReturnsInHanded {} Tryd.checked os 8 .any ((OpenSpec.ofChange Rows.chunkForksSpec).preRow enc Tryd.prog Tryd.f8 Rows.chunkForksRow.domain false Rows.chunkForksRow.laid) (((OpenSpec.ofChange Rows.chunkForksSpec).at F).post enc Tryd.prog Tryd.f8 false true false false) := by
  obtain ⟨places, hx⟩ := reads os enc
  refine returnsInHanded_of_row (C := Tryd.checked) (s := (OpenSpec.ofChange Rows.chunkForksSpec)) own started (by kernel_rfl) Tryd.func8
    (witness_row_at (enc := enc) (C := Tryd.checked) false (laidWorld os) #[.slice none 0 0, .slice none 0 0] rfl (by kernel_rfl) (by kernel_rfl) (by kernel_rfl)
      (OpenSpec.preRow_of_cond 8 hx (by kernel_rfl) (fun k hk => by cases hk) (by kernel_rfl) (laid_met os))) ?_
  intro W base args ds gs before hval hW hcnd hk hsz hL _ _
  exact law_post_at (C := Tryd.checked) laidOut (fun ds h => by match ds, h with | [_, _], _ => rfl) 4 rfl Tryd.underlying4 rfl (by kernel_rfl) hW hsz
    (fun p hA hs => lawWalk enc W base args ds p hval hA hs (tab hL))

theorem said : Rows.ChunkForksSaid :=
  OpenClaim.holds_of_cond 8 Tryd.f8 rfl rfl rfl rfl rfl rfl rfl ⟨rfl, rfl, rfl, rfl, rfl⟩ rfl rfl rfl rfl rfl (by kernel_rfl) Tryd.func8 (by kernel_rfl)
    (of_decide_eq_true (by kernel_rfl)) (by unfold Func.isWrapper; first | (rw [if_pos (by decide +kernel)]; kernel_rfl) | (rw [if_neg (by decide +kernel)]; exact ⟨rfl, rfl⟩))
    (fun os started H enc _ F => by rw [OpenClaim.pre_eq_preRow]; exact lifted os started H enc F)

theorem plain (f : FuncId) (fn : Func) (hf : Tryd.pinned.checked.prog.funcNamed "purse/purselaw12.ChunkForks" = some f) (hfn : Tryd.pinned.checked.prog.funcs[f]? = some fn) :
    true = Tryd.pinned.checked.prog.looks [] ∧ ∀ (j : Nat) t, fn.params[j]? = some t → Tryd.pinned.checked.prog.wantsStandIn t = false := by
  obtain rfl : f = 8 := Option.some.inj ((show Tryd.prog.funcNamed "purse/purselaw12.ChunkForks" = some 8 by kernel_rfl).symm.trans hf) |>.symm
  obtain rfl : fn = Tryd.f8 := (Option.some.inj (Tryd.func8.symm.trans hfn)).symm
  refine ⟨by kernel_rfl, ?_⟩
  have h : (Tryd.f8.params.toList.all fun t => ! Tryd.prog.wantsStandIn t) = true := by kernel_rfl
  intro j t ht
  have := List.all_eq_true.1 h t (by simpa using Array.mem_of_getElem? ht)
  have h2 : Tryd.prog.wantsStandIn t = false := by simpa using this
  exact h2

theorem card : Rows.ChunkForksCardSaid :=
  Claim7.holds_tied_plain_at .later [] _ _ _ _ said (fun _ h => by cases h) (by kernel_rfl) (fun _ h => by cases h) chunkForks_row_tie rfl ⟨rfl, rfl⟩ (by kernel_rfl) rfl plain (by kernel_rfl)
#print axioms card
end Go.Proofs.YtgpkenbefolegaaDoor.chunkForks
