/-
  The statement ChunkSum: what is done has the sum that its pieces say, whatever they are.
-/
import Derived.Test.YtgpkenbefolegaaDoorPieces
import Derived.Test.YtgpkenbefolegaaDoorAwake
import Derived.Test.YtgpkenbefolegaaDoorRows
import Derived.Test.YtgpkenbefolegaaDoorCards
import Derived.Test.YtgpkenbefolegaaDoorTie
namespace Go.Proofs.YtgpkenbefolegaaDoor.chunkSum
open Go.ChangeShapes Go.WideShapes Go.ChangeAt Go.RowKit
open Go.Proofs.YtgpkenbefolegaaDoor.kit Go.Proofs.YtgpkenbefolegaaDoor.mapkit Go.Proofs.YtgpkenbefolegaaDoor.byt Go.Proofs.YtgpkenbefolegaaDoor.sum Go.Proofs.YtgpkenbefolegaaDoor.cut Go.Proofs.YtgpkenbefolegaaDoor.laid Go.Proofs.YtgpkenbefolegaaDoor.box
set_option linter.unusedVariables false
set_option linter.unusedSimpArgs false
set_option maxHeartbeats 4000000
set_option maxRecDepth 100000

theorem done_byt {V : BoxV} {x : List Nat} (h : WF V) (hd : doneV V = some x) : Byt x := by
  unfold doneV at hd
  split at hd
  · cases hd
  · split at hd
    · simp only [Option.some.injEq] at hd
      subst hd
      exact join_byt h _
    · cases hd

theorem put_again (V : BoxV) (p : PieceV) : (putV (putV V p).1 p).2 = (putV V p).2 := by
  by_cases h : (putV V p).2 = 0
  · obtain ⟨h1, h2, h3, h4⟩ := put_ok h
    rw [h, h4, put_is h1 (by simp) (.inr (by simp [updG]))]
  · rw [put_no h]
theorem put_sum {V : BoxV} {p : PieceV} {sm : Nat} (h1 : V.sum = sm) (h2 : 0 < V.cnt) : (putV V p).1.sum = sm ∧ 0 < (putV V p).1.cnt ∧ ((putV V p).2 = 0 → p.sum = sm) := by
  by_cases h : (putV V p).2 = 0
  · obtain ⟨g1, g2, g3, g4⟩ := put_ok h
    have e : p.sum = sm := by
      rcases g2 with g2 | g2
      · omega
      · rw [← g2.2, h1]
    exact ⟨by rw [g4]; exact e, (put_cnt h).1, fun _ => e⟩
  · rw [put_no h]
    exact ⟨h1, h2, fun e => absurd e h⟩

theorem walk_ok (L : List PieceV) (a : Option Addr) (cap : Nat) (w : World) (hlc : L.length ≤ cap) (hcm : cap ≤ 9223372036854775807) (ht : Tab w) (hat : PinAt w a L) (hgood : ∀ p ∈ L, GoodP w p) :
    Calls Tryd.prog 4 #[.slice a L.length cap] w fun e w' => e = .returned (.bool true) ∧ Below w.heap.size w w' := by
  have HAT := Lib.hid hat
  have HG := Lib.hid hgood
  have HT := Lib.hid ht
  clear hat hgood ht
  go_enter Tryd.func4, Tryd.ntmps4
  go_wp2_with fail
  refine (new_ok _).mono ?_; rintro e w1 ⟨b, m, rfl, hbox, hb1⟩
  have HB1 := Lib.hid hbox
  clear hbox
  go_wp2_with fail
  refine (awake_ok _ (cut.Tab.below HT.out hb1)).mono ?_; rintro e w2 ⟨rfl, hb2⟩
  have hB2 : Below w.heap.size w w2 := below_step hb1 hb2
  have HB2 := Lib.hid (HB1.out.below hb2)
  go_wp2_with fail
  go_loopw [4] (fun i wr => ∃ (k : Nat) (V : BoxV), k ≤ L.length ∧ i = .int .i64 k ∧ Hid (BoxAt wr w.heap.size b m V) ∧ Below w.heap.size w wr) (fun i _ => L.length - (intOf i).toNat)
  case atStart => exact ⟨0, _, Nat.zero_le _, rfl, HB2, hB2⟩
  case round =>
    obtain ⟨k, V, hk, rfl, hbx, hb⟩ := hrel
    by_cases hlt : k < L.length
    · obtain ⟨g, off, rfl, hg, hc⟩ := PinAt.cells HAT.out (by intro e; rw [e] at hlt; simp at hlt)
      obtain ⟨c0, c1, c2, c3⟩ := hc k hlt
      obtain ⟨p, hp⟩ : ∃ p, p = L[k] := ⟨_, rfl⟩
      rw [← hp] at c0 c1 c2 c3
      rw [← (bcell hb).1 _ _ hg] at c0 c1 c2 c3
      have hgp := (HG.out p (by rw [hp]; exact List.getElem_mem hlt)).below hb
      have hC := put_any p wr w.heap.size b m V hbx.out hb.size hgp
      unfold pval at hC
      have HC := Lib.hid hC
      have hlt2 : (k : Int) < (L.length : Int) := by omega
      have hk0 : (0 : Int) ≤ (k : Int) := by omega
      clear hc hp hgp hC
      go_wp2_with fail
      refine HC.out.mono ?_; rintro e w3 ⟨rfl, hbx3, hk3⟩
      have hbn : Below w.heap.size w w3 := hb.trans (hk3.below hb.size (fun j hj => by have := hbx.out.lob; have := hbx.out.lom; omega))
      have HB3 := Lib.hid hbx3
      clear hbx3 hk3
      go_wp2_with fail
      go_roundw
      case rel => exact ⟨k + 1, _, by omega, by go_num, HB3, hbn⟩
      case measure => simp [intOf]; omega
    · have hbx2 := hbx
      obtain ⟨dn, hdn⟩ : ∃ d, d = doneV V := ⟨_, rfl⟩
      have hD := done_ok wr w.heap.size b m V hbx.out (cut.Tab.below HT.out hb)
      have HD := Lib.hid hD
      clear hD
      go_wp2_with fail
      refine HD.out.mono ?_; rintro e w3 ⟨v, rfl, hown, hb3⟩
      rw [← hdn] at hown
      rw [← hdn]
      have hB3 : Below w.heap.size w w3 := below_step hb hb3
      cases hdv : dn with
      | none =>
        rw [hdv] at hown
        obtain ⟨xa, xc, rfl, _⟩ := own_shape hown
        go_wp2_with fail
        go_ret
        exact ⟨rfl, hB3⟩
      | some x =>
        rw [hdv] at hown
        have hdx : doneV V = some x := by rw [← hdn, hdv]
        obtain ⟨hx1, hx2, hx3⟩ := done_len hbx.out.wf hdx
        have hbyt := done_byt hbx.out.wf hdx
        have hs3 := hb3.size
        obtain ⟨xa, xc, e0, hxn, hxl, _⟩ := owned_lie (show w3.ownsRow wr.heap.size 5 1 v x.length (bcells x) from hown)
        subst e0
        have HX3 := Lib.hid hxl
        have HBX3 := Lib.hid (hbx.out.below hb3)
        have HBY := Lib.hid hbyt
        obtain ⟨sm, hsm⟩ : ∃ s, s = V.sum := ⟨_, rfl⟩
        have HSM := Lib.hid hsm
        have HXS : Hid (sumL x = sm) := by rw [hsm]; exact hx2
        clear hdx hdn hdv hbyt hx2 hown hxl hsm
        go_wp2_with fail
        go_loopw [7] (fun i wq => ∃ (k : Nat) (V' : BoxV), k ≤ L.length ∧ i = .int .i64 k ∧ Hid (BoxAt wq w.heap.size b m V') ∧ V'.sum = sm ∧ 0 < V'.cnt ∧ Hid (Lie wq xa (bcells x)) ∧ Below w.heap.size w wq) (fun i _ => L.length - (intOf i).toNat)
        case atStart => exact ⟨0, V, Nat.zero_le _, rfl, HBX3, HSM.out.symm, hx3, HX3, hB3⟩
        case round =>
          obtain ⟨k, V2, hk, rfl, hbx, hvs, hvc, hxl, hb⟩ := hrel
          by_cases hlt : k < L.length
          · obtain ⟨g, off, rfl, hg, hc⟩ := PinAt.cells HAT.out (by intro e; rw [e] at hlt; simp at hlt)
            obtain ⟨c0, c1, c2, c3⟩ := hc k hlt
            obtain ⟨p, hp⟩ : ∃ p, p = L[k] := ⟨_, rfl⟩
            rw [← hp] at c0 c1 c2 c3
            have hgp := HG.out p (by rw [hp]; exact List.getElem_mem hlt)
            have hgp2 := hgp
            obtain ⟨code, hcode⟩ : ∃ c, c = (putV V2 p).2 := ⟨_, rfl⟩
            obtain ⟨Q, hQ⟩ : ∃ Q : World → Prop, Q = fun W => Below w.heap.size w W ∧ Lie W xa (bcells x) ∧ ∃ V', BoxAt W w.heap.size b m V' ∧ V'.sum = sm ∧ 0 < V'.cnt ∧ (putV V' p).2 = code := ⟨_, rfl⟩
            have hQ0 : Q wr.drew := by rw [hQ]; exact ⟨below_drewN hb 1, hxl.out, V2, hbx.out.below (below_drewN (Below.refl _ _) 1), hvs, hvc, hcode.symm⟩
            have hQC : ∀ W, Q W → W.cell? ⟨g, off + k * 4, none⟩ = some (.int .i64 p.pos) ∧ W.cell? ⟨g, off + k * 4 + 1, none⟩ = some (.int .i64 p.tot) ∧ W.cell? ⟨g, off + k * 4 + 2, none⟩ = some (.int .u32 p.sum) ∧ W.cell? ⟨g, off + k * 4 + 3, none⟩ = some (.slice p.addr p.data.length p.cap) ∧ Q W := by
              intro W hW
              have hb5 : Below w.heap.size w W := by rw [hQ] at hW; exact hW.1
              refine ⟨((bcell hb5).1 _ _ hg).trans c0, ((bcell hb5).1 _ _ hg).trans c1, ((bcell hb5).1 _ _ hg).trans c2, ((bcell hb5).1 _ _ hg).trans c3, hW⟩
            have hC : ∀ W, Q W → Calls Tryd.prog 17 #[.pointer (some ⟨b, 0, none⟩), .agg #[.int .i64 p.pos, .int .i64 p.tot, .int .u32 p.sum, .slice p.addr p.data.length p.cap]] W fun e w' => e = .returned (.int .i64 code) ∧ Q w' := by
              intro W hW
              rw [hQ] at hW
              obtain ⟨hbW, hlW, V', hBW, h1, h2, h3⟩ := hW
              refine (put_any p W w.heap.size b m V' hBW hbW.size (hgp2.below hbW)).mono ?_
              rintro e w' ⟨rfl, h4, h5⟩
              refine ⟨by rw [h3], ?_⟩
              rw [hQ]
              have hs := put_sum (p := p) h1 h2
              exact ⟨hbW.trans (h5.below hbW.size (fun j hj => by have := hBW.lob; have := hBW.lom; omega)), lie_keep hlW h5 (hBW.notU8), _, h4, hs.1, hs.2.1, by rw [put_again, h3]⟩
            have hRS : code = 0 → ∀ W, Q W → Calls Tryd.prog 19 #[.slice xa x.length xc] W fun e w' => e = .returned (.int .u32 p.sum) ∧ W = w' := by
              intro h0 W hW
              rw [hQ] at hW
              obtain ⟨hbW, hlW, V', hBW, h1, h2, h3⟩ := hW
              rw [(put_sum (p := p) h1 h2).2.2 (by rw [h3, h0]), ← HXS.out]
              exact refSum_any x xa xc W (by omega) HBY.out hlW
            have hQE : ∀ W, Q W → Below w.heap.size w W ∧ Hid (Lie W xa (bcells x)) ∧ ∃ V', Hid (BoxAt W w.heap.size b m V') ∧ V'.sum = sm ∧ 0 < V'.cnt := by
              intro W hW
              rw [hQ] at hW
              obtain ⟨hbW, hlW, V', hBW, h1, h2, h3⟩ := hW
              exact ⟨hbW, hlW, V', hBW, h1, h2⟩
            obtain ⟨c0', c1', c2', c3'⟩ : wr.cell? ⟨g, off + k * 4, none⟩ = some (.int .i64 p.pos) ∧ wr.cell? ⟨g, off + k * 4 + 1, none⟩ = some (.int .i64 p.tot) ∧ wr.cell? ⟨g, off + k * 4 + 2, none⟩ = some (.int .u32 p.sum) ∧ wr.cell? ⟨g, off + k * 4 + 3, none⟩ = some (.slice p.addr p.data.length p.cap) :=
              ⟨((bcell hb).1 _ _ hg).trans c0, ((bcell hb).1 _ _ hg).trans c1, ((bcell hb).1 _ _ hg).trans c2, ((bcell hb).1 _ _ hg).trans c3⟩
            have HC := Lib.hid hC
            have HQC := Lib.hid hQC
            have HRS := Lib.hid hRS
            have HQE := Lib.hid hQE
            have hlt2 : (k : Int) < (L.length : Int) := by omega
            have hk0 : (0 : Int) ≤ (k : Int) := by omega
            clear hc hC hp hgp hgp2 hcode hQC hRS hQE hQ c0 c1 c2 c3 hbx hxl hvs hvc
            by_cases h0 : code = 0
            · have hRS := HRS.out h0
              have HRS2 := Lib.hid hRS
              subst h0
              clear hRS
              go_wp2_with fail
              go_region_held3 (fun w' => w'.cell? ⟨g, off + k * 4, none⟩ = some (.int .i64 p.pos) ∧ w'.cell? ⟨g, off + k * 4 + 1, none⟩ = some (.int .i64 p.tot) ∧ w'.cell? ⟨g, off + k * 4 + 2, none⟩ = some (.int .u32 p.sum) ∧ w'.cell? ⟨g, off + k * 4 + 3, none⟩ = some (.slice p.addr p.data.length p.cap) ∧ Q w') (first | (exact ⟨c0', c1', c2', c3', hQ0⟩) | (refine HQC.out _ ?_; assumption)) (first | (go_at_call 17; refine (HC.out _ (by first | exact hQ0 | assumption)).mono ?_; rintro e w5 ⟨rfl, hq5⟩) | (go_at_call 19; refine (HRS2.out _ (by first | exact hq5 | assumption)).mono ?_; rintro e w6 ⟨rfl, rfl⟩))
              all_goals
                obtain ⟨r1, r2, V3, r3, r4, r5⟩ := HQE.out _ hq5
                clear hq5
                go_wp2_with fail
                go_roundw
                case rel => exact ⟨k + 1, V3, by omega, by go_num, r3, r4, r5, r2, r1⟩
                case measure => simp [intOf]; omega
            · have hcz : (code == 0) = false := by simpa using h0
              go_wp2_with fail
              first | (go_region_with (first | (go_at_call 17; refine (HC.out _ hQ0).mono ?_; rintro e w5 ⟨rfl, hq5⟩))) | fail
              all_goals
                obtain ⟨r1, r2, V3, r3, r4, r5⟩ := HQE.out _ hq5
                clear hq5
                go_wp2_with fail
                go_roundw
                case rel => exact ⟨k + 1, V3, by omega, by go_num, r3, r4, r5, r2, r1⟩
                case measure => simp [intOf]; omega
          · go_wp2_with fail
            go_ret
            exact ⟨by simp [hx1]; omega, hb⟩

theorem lawWalk {H : Type} (enc : TypeId × Value → H) (W : World) (base : Nat) (args : Array Value) (ds : List (DataW H)) (p : List MemPlace)
    (hval : ∀ (j : Nat) t v, Tryd.f4.params[j]? = some t → args[j]? = some v → Value.okWide Tryd.prog W .any base t v)
    (hA : DataW.TrodAll enc Tryd.prog W 0 (fun _ => true) true Tryd.f4.params.toList args.toList ds p)
    (hsz : (DataW.weightsEach Tryd.prog Tryd.f4.params.toList ds).all (· ≤ reachBytes) = true) (ht : Tab W) :
    Calls Tryd.prog 4 args W fun e w' => e = .returned (.bool true) ∧ Below W.heap.size W w' := by
  rw [Tryd.params4] at hA hval hsz
  obtain ⟨v0, vs0, d0, ds0, p0, q0, hargs, rfl, rfl, h0, r0⟩ := trodAll_cons hA
  obtain ⟨rfl, rfl, rfl⟩ := trodAll_nil r0
  obtain rfl : args = #[v0] := by cases args; simp_all
  obtain ⟨a, L, cap, es, sp, rfl, hlc, hcm, hn, hat, hd, hel, hsp, hgood⟩ := open_slice_gen 4 pcells (fun p d => GoodP W p ∧ DataIs p d) Tryd.underlying24 (by kernel_rfl) (by omega) (fun n cs y _ h => elem_piece n cs y h) (hval 0 24 v0 rfl rfl) h0
  refine walk_ok L a cap W hlc (by unfold maxLen at hcm; omega) ht hat (fun p hp => ?_)
  obtain ⟨i, hi, rfl⟩ := List.getElem_of_mem hp
  exact (hgood i hi (by omega)).1

theorem laid_met (os : Os) : laidMet Tryd.prog Rows.chunkSumRow.laid ((laidWorld os).forCall (fun _ _ => 0) ⟨#[], #[.slice none 0 0], []⟩).memory :=
  laidMet_of_run' 8 (by kernel_rfl) (by kernel_rfl)
theorem reads (os : Os) {H : Type} (enc : TypeId × Value → H) : ∃ places, DataW.whole enc Tryd.prog ((laidWorld os).forCall (fun _ _ => 0) ⟨#[], #[.slice none 0 0], []⟩).memory Tryd.f4.params.toList Rows.chunkSumSpec.vars false (#[.slice none 0 0] : Array Value).toList 8 = some ([.nil], [], places) :=
  ⟨[], by kernel_rfl⟩

set_option maxRecDepth 100000 in
theorem lifted (os : Os) (started : os.Started) (H : Type) (enc : TypeId × Value → H) (F : Stop.Interp) :
    ReturnsInHanded {} Tryd.checked os 4 .any ((OpenSpec.ofChange Rows.chunkSumSpec).preRow enc Tryd.prog Tryd.f4 Rows.chunkSumRow.domain false Rows.chunkSumRow.laid) (((OpenSpec.ofChange Rows.chunkSumSpec).at F).post enc Tryd.prog Tryd.f4 false true false false) := by
  obtain ⟨places, hx⟩ := reads os enc
  refine returnsInHanded_of_row (C := Tryd.checked) (s := (OpenSpec.ofChange Rows.chunkSumSpec)) own started (by kernel_rfl) Tryd.func4
    (witness_row_at (enc := enc) (C := Tryd.checked) false (laidWorld os) #[.slice none 0 0] rfl (by kernel_rfl) (by kernel_rfl) (by kernel_rfl)
      (OpenSpec.preRow_of_cond 8 hx (by kernel_rfl) (fun k hk => by cases hk) (by kernel_rfl) (laid_met os))) ?_
  intro W base args ds gs before hval hW hcnd hk hsz hL _ _
  exact law_post_at (C := Tryd.checked) laidOut (fun ds h => by match ds, h with | [_], _ => rfl) 4 rfl Tryd.underlying4 rfl (by kernel_rfl) hW hsz
    (fun p hA hs => lawWalk enc W base args ds p hval hA hs (tab hL))

theorem said : Rows.ChunkSumSaid :=
  OpenClaim.holds_of_cond 4 Tryd.f4 rfl rfl rfl rfl rfl rfl rfl ⟨rfl, rfl, rfl, rfl, rfl⟩ rfl rfl rfl rfl rfl (by kernel_rfl) Tryd.func4 (by kernel_rfl)
    (of_decide_eq_true (by kernel_rfl)) (by unfold Func.isWrapper; first | (rw [if_pos (by decide +kernel)]; kernel_rfl) | (rw [if_neg (by decide +kernel)]; exact ⟨rfl, rfl⟩))
    (fun os started H enc _ F => by rw [OpenClaim.pre_eq_preRow]; exact lifted os started H enc F)

theorem plain (f : FuncId) (fn : Func) (hf : Tryd.pinned.checked.prog.funcNamed "purse/purselaw12.ChunkSum" = some f) (hfn : Tryd.pinned.checked.prog.funcs[f]? = some fn) :
    true = Tryd.pinned.checked.prog.looks [] ∧ ∀ (j : Nat) t, fn.params[j]? = some t → Tryd.pinned.checked.prog.wantsStandIn t = false := by
  obtain rfl : f = 4 := Option.some.inj ((show Tryd.prog.funcNamed "purse/purselaw12.ChunkSum" = some 4 by kernel_rfl).symm.trans hf) |>.symm
  obtain rfl : fn = Tryd.f4 := (Option.some.inj (Tryd.func4.symm.trans hfn)).symm
  refine ⟨by kernel_rfl, ?_⟩
  have h : (Tryd.f4.params.toList.all fun t => ! Tryd.prog.wantsStandIn t) = true := by kernel_rfl
  intro j t ht
  have := List.all_eq_true.1 h t (by simpa using Array.mem_of_getElem? ht)
  have h2 : Tryd.prog.wantsStandIn t = false := by simpa using this
  exact h2

theorem card : Rows.ChunkSumCardSaid :=
  Claim7.holds_tied_plain_at .later [] _ _ _ _ said (fun _ h => by cases h) (by kernel_rfl) (fun _ h => by cases h) chunkSum_row_tie rfl ⟨rfl, rfl⟩ (by kernel_rfl) rfl plain (by kernel_rfl)
#print axioms card
end Go.Proofs.YtgpkenbefolegaaDoor.chunkSum
