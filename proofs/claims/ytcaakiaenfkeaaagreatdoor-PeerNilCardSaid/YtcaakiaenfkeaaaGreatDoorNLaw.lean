/-
  PeerNil: a nil member, and numbers that may not be.
-/
import Derived.Test.YtcaakiaenfkeaaaGreatDoorN24
import Derived.Deep.CutBlock
import Derived.Deep.RegionHeld3
namespace Go.Proofs.YtcaakiaenfkeaaaGreatDoor.peerNil
open Go.ChangeShapes Go.WideShapes Go.ChangeAt Go.RowKit
open Go.Proofs.YtcaakiaenfkeaaaGreatDoor.kit Go.Proofs.YtcaakiaenfkeaaaGreatDoor.byt Go.Proofs.YtcaakiaenfkeaaaGreatDoor.own Go.Proofs.YtcaakiaenfkeaaaGreatDoor.ownr Go.Proofs.YtcaakiaenfkeaaaGreatDoor.peb Go.Proofs.YtcaakiaenfkeaaaGreatDoor.pem Go.Proofs.YtcaakiaenfkeaaaGreatDoor.pen Go.Proofs.YtcaakiaenfkeaaaGreatDoor.peq Go.Proofs.YtcaakiaenfkeaaaGreatDoor.pedr Go.Proofs.YtcaakiaenfkeaaaGreatDoor.pelo Go.Proofs.YtcaakiaenfkeaaaGreatDoor.penw Go.Proofs.YtcaakiaenfkeaaaGreatDoor.peaw Go.Proofs.YtcaakiaenfkeaaaGreatDoor.penl Go.Proofs.YtcaakiaenfkeaaaGreatDoor.laidn
set_option linter.unusedVariables false
set_option linter.unusedSimpArgs false
set_option maxHeartbeats 8000000
set_option maxRecDepth 100000

/-- New of nothing saved. -/
theorem new_any (w : World) (node nodes : Int) : ∃ (q : Option Addr) (E : Int), (q = none ∧ E = 1 ∨ E = 0 ∧ q = some ⟨0, 0, none⟩) ∧
    (Calls Tryz.prog 21 #[.int .i64 node, .int .i64 nodes, .agg #[.int .i64 0, .int .i64 0, .slice none 0 0, .int .i64 0, .slice none 0 0, .slice none 0 0]] w fun e w' => (∃ q' : Option Addr, e = .returned (.tuple #[.pointer q', .int .i64 E]) ∧ (q' = none ↔ q = none)) ∧ Below w.heap.size w w') ∧
    ∀ wr, Calls Tryz.prog 22 #[.int .i64 node, .int .i64 nodes, .agg #[.int .i64 0, .int .i64 0, .slice none 0 0, .int .i64 0, .slice none 0 0, .slice none 0 0]] wr fun e w' => e = .returned (.int .i64 E) ∧ Below wr.heap.size wr w' := by
  have hcl : ownr.Clean w (fun _ => ro) := fun _ _ => rfl
  by_cases hg : (nodes = 1 ∨ nodes = 3 ∨ nodes = 5) ∧ 1 ≤ node ∧ node ≤ nodes
  · refine ⟨some ⟨0, 0, none⟩, 0, .inr ⟨rfl, rfl⟩, ?_, fun wr => rcheck_ok wr node nodes hg.1 hg.2⟩
    have h := new_ok w (fun _ => ro) 1 node nodes S0 hcl fresh1 (rdS0 w) (okS0 hg.1 hg.2) rfl
    simp only [SvM.val, S0, sl0, List.length_nil] at h
    refine h.mono ?_
    rintro e w' ⟨pb, M, O, rfl, hP, hF, -⟩
    exact ⟨⟨_, rfl, by simp⟩, hF.below (Nat.le_refl _) (fun _ _ x => x)⟩
  · refine ⟨none, 1, .inl ⟨rfl, rfl⟩, ?_, fun wr => rcheck_arg wr node nodes hg⟩
    have h := new_arg w node nodes S0 hg
    simp only [SvM.val, S0, sl0, List.length_nil] at h
    refine h.mono ?_
    rintro e w' ⟨rfl, hb⟩
    exact ⟨⟨_, rfl, Iff.rfl⟩, hb⟩
/-- The letter that came in, and what Ready told, in blocks of the law's own. -/
structure Nl (W w : World) (lb rb : Nat) (L : Array Value) : Prop where
  below : Below W.heap.size W w
  l : w.heap[lb]? = some (.cells L 64 (0, 0))
  r : w.heap[rb]? = some (.cells #[.slice none 0 0, .slice none 0 0, .slice none 0 0, .int .i64 0, .slice none 0 0] 67 (0, 0))
theorem Nl.fr {W w w' : World} {lb rb : Nat} {L : Array Value} (h : Nl W w lb rb L) (hb : Below w.heap.size w w') : Nl W w' lb rb L := ⟨below_step h.below hb, hp_step h.l hb, hp_step h.r hb⟩

theorem nil_ok (W : World) (node nodes : Int) (c0 c1 c2 c3 c4 c5 c6 c7 c8 c9 c10 c11 c12 : Value) : Calls Tryz.prog 6 #[.int .i64 node, .int .i64 nodes, .agg #[c0, c1, c2, c3, c4, c5, c6, c7, c8, c9, c10, c11, c12]] W fun e w' => e = .returned (.bool true) ∧ Below W.heap.size W w' := by
  have HST : Hid (∀ w, Calls Tryz.prog 24 #[.pointer none, .agg #[c0, c1, c2, c3, c4, c5, c6, c7, c8, c9, c10, c11, c12]] w fun e w' => e = .returned (.int .i64 2) ∧ Below w.heap.size w w') := fun w => step_nil w c0 c1 c2 c3 c4 c5 c6 c7 c8 c9 c10 c11 c12
  obtain ⟨lb, hlb⟩ : ∃ lb, lb = W.heap.size := ⟨_, rfl⟩
  obtain ⟨w0, hw0⟩ : ∃ w0, w0 = W.alloc (.cells #[c0, c1, c2, c3, c4, c5, c6, c7, c8, c9, c10, c11, c12] 64) := ⟨_, rfl⟩
  have HB0 : Hid (Below W.heap.size W w0) := by rw [hw0]; exact below_new1 _ _
  have HL0 : Hid (w0.heap[lb]? = some (.cells #[c0, c1, c2, c3, c4, c5, c6, c7, c8, c9, c10, c11, c12] 64 (0, 0))) := by rw [hw0, hlb]; exact hp_alloc_new _ _
  have HLB := Lib.hid hlb
  have HW0 := Lib.hid hw0
  clear hlb hw0
  go_enter Tryz.func6, Tryz.ntmps6
  go_upto_region 2 with fail
  rw [← HW0.out, ← HLB.out]
  go_upto_region 3 with (go_at_call 20; refine (ready_nil w0).mono ?_; rintro e w1 ⟨rfl, hb1⟩; have HB1 := Lib.hid hb1; clear hb1)
  obtain ⟨rb, hrb⟩ : ∃ rb, rb = w1.heap.size := ⟨_, rfl⟩
  obtain ⟨w2, hw2⟩ : ∃ w2, w2 = w1.alloc (.cells #[.slice none 0 0, .slice none 0 0, .slice none 0 0, .int .i64 0, .slice none 0 0] 67) := ⟨_, rfl⟩
  have HN2 : Hid (Nl W w2 lb rb #[c0, c1, c2, c3, c4, c5, c6, c7, c8, c9, c10, c11, c12]) := by
    have hb : Below w1.heap.size w1 w2 := by rw [hw2]; exact below_new1 _ _
    exact ⟨below_step (below_step HB0.out HB1.out) hb, hp_step (hp_step HL0.out HB1.out) hb, by rw [hw2, hrb]; exact hp_alloc_new _ _⟩
  rw [← hw2, ← hrb]
  clear hw2 hrb HB1 HL0 HB0
  obtain ⟨q, E, hqE, hnew, hck⟩ := new_any w2 node nodes
  have HNW := Lib.hid hnew
  have HCK := Lib.hid hck
  clear hnew hck
  go_upto_region 4 with (go_at_call 21; refine HNW.out.mono ?_; rintro e w3 ⟨⟨q', rfl, hq'⟩, hb3⟩; have HQ := Lib.hid hq'; have HN3 := Lib.hid (HN2.out.fr hb3); clear hb3 hq')
  rcases hqE with ⟨rfl, rfl⟩ | ⟨rfl, rfl⟩
  · obtain rfl : q' = none := HQ.out.2 rfl
    go_upto_region 5 with (first | (go_at_call 9; refine (awake_ok w3).mono ?_; rintro e w4 ⟨rfl, hb4⟩; have HN4 := Lib.hid (HN3.out.fr hb4); clear hb4) | (go_at_call 22; refine (HCK.out _).mono ?_; rintro e w5 ⟨rfl, hb5⟩; have HN5 := Lib.hid (HN4.out.fr hb5); clear hb5))
    go_wp2_with (go_at_call 10; refine (draw_nil w5).mono ?_; rintro e w6 ⟨rfl, rfl⟩)
    have z5 := (kit.blk HN5.out.l).2.2
    have y0 := (kit.blk HN5.out.l).1 0
    have y1 := (kit.blk HN5.out.l).1 1
    have y2 := (kit.blk HN5.out.l).1 2
    have y3 := (kit.blk HN5.out.l).1 3
    have y4 := (kit.blk HN5.out.l).1 4
    have y5 := (kit.blk HN5.out.l).1 5
    have y6 := (kit.blk HN5.out.l).1 6
    have y7 := (kit.blk HN5.out.l).1 7
    have y8 := (kit.blk HN5.out.l).1 8
    have y9 := (kit.blk HN5.out.l).1 9
    have y10 := (kit.blk HN5.out.l).1 10
    have y11 := (kit.blk HN5.out.l).1 11
    have y12 := (kit.blk HN5.out.l).1 12
    go_wp2_with (go_at_call 23; refine (propose_nil _ _).mono ?_; rintro e w7 ⟨rfl, rfl⟩)
    refine (HST.out _).mono ?_; rintro e w7 ⟨rfl, hb7⟩
    have HN7 := Lib.hid ((HN5.out.fr (below_new1 _ _)).fr hb7)
    clear hb7 z5 y0 y1 y2 y3 y4 y5 y6 y7 y8 y9 y10 y11 y12
    go_wp2_with (first | (go_at_call 25; refine (tick_nil w7).mono ?_; rintro e w8 ⟨rfl, hb8⟩; have HN8 := Lib.hid (HN7.out.fr hb8); clear hb8) | (go_at_call 18; refine (compact_nil w8 1 (.slice none 0 0)).mono ?_; rintro e wa ⟨rfl, rfl⟩) | (go_at_call 13; refine (leads_nil _).mono ?_; rintro e wb ⟨rfl, rfl⟩) | (go_at_call 17; refine (leader_nil _).mono ?_; rintro e wc ⟨rfl, rfl⟩) | (go_at_call 26; refine (commit_nil _).mono ?_; rintro e wd ⟨rfl, rfl⟩) | fail)
    refine (ballot_nil _).mono ?_; rintro e w9 ⟨rfl, hb9⟩
    have HN9 := Lib.hid (HN8.out.fr hb9)
    clear hb9
    have r0 := (kit.blk HN9.out.r).1 0
    have r1 := (kit.blk HN9.out.r).1 1
    have r2 := (kit.blk HN9.out.r).1 2
    have r3 := (kit.blk HN9.out.r).1 3
    have r4 := (kit.blk HN9.out.r).1 4
    go_wp2_with fail
    go_ret
    exact ⟨rfl, HN9.out.below⟩
  · obtain ⟨a, rfl⟩ : ∃ a, q' = some a := by
      cases q' with
      | none => exact absurd (HQ.out.1 rfl) (by simp)
      | some a => exact ⟨a, rfl⟩
    go_upto_region 5 with (first | (go_at_call 9; refine (awake_ok w3).mono ?_; rintro e w4 ⟨rfl, hb4⟩; have HN4 := Lib.hid (HN3.out.fr hb4); clear hb4) | (go_at_call 22; refine (HCK.out _).mono ?_; rintro e w5 ⟨rfl, hb5⟩; have HN5 := Lib.hid (HN4.out.fr hb5); clear hb5))
    go_wp2_with (go_at_call 10; refine (draw_nil w5).mono ?_; rintro e w6 ⟨rfl, rfl⟩)
    have z5 := (kit.blk HN5.out.l).2.2
    have y0 := (kit.blk HN5.out.l).1 0
    have y1 := (kit.blk HN5.out.l).1 1
    have y2 := (kit.blk HN5.out.l).1 2
    have y3 := (kit.blk HN5.out.l).1 3
    have y4 := (kit.blk HN5.out.l).1 4
    have y5 := (kit.blk HN5.out.l).1 5
    have y6 := (kit.blk HN5.out.l).1 6
    have y7 := (kit.blk HN5.out.l).1 7
    have y8 := (kit.blk HN5.out.l).1 8
    have y9 := (kit.blk HN5.out.l).1 9
    have y10 := (kit.blk HN5.out.l).1 10
    have y11 := (kit.blk HN5.out.l).1 11
    have y12 := (kit.blk HN5.out.l).1 12
    go_wp2_with (go_at_call 23; refine (propose_nil _ _).mono ?_; rintro e w7 ⟨rfl, rfl⟩)
    refine (HST.out _).mono ?_; rintro e w7 ⟨rfl, hb7⟩
    have HN7 := Lib.hid ((HN5.out.fr (below_new1 _ _)).fr hb7)
    clear hb7 z5 y0 y1 y2 y3 y4 y5 y6 y7 y8 y9 y10 y11 y12
    go_wp2_with (first | (go_at_call 25; refine (tick_nil w7).mono ?_; rintro e w8 ⟨rfl, hb8⟩; have HN8 := Lib.hid (HN7.out.fr hb8); clear hb8) | (go_at_call 18; refine (compact_nil w8 1 (.slice none 0 0)).mono ?_; rintro e wa ⟨rfl, rfl⟩) | (go_at_call 13; refine (leads_nil _).mono ?_; rintro e wb ⟨rfl, rfl⟩) | (go_at_call 17; refine (leader_nil _).mono ?_; rintro e wc ⟨rfl, rfl⟩) | (go_at_call 26; refine (commit_nil _).mono ?_; rintro e wd ⟨rfl, rfl⟩) | fail)
    refine (ballot_nil _).mono ?_; rintro e w9 ⟨rfl, hb9⟩
    have HN9 := Lib.hid (HN8.out.fr hb9)
    clear hb9
    have r0 := (kit.blk HN9.out.r).1 0
    have r1 := (kit.blk HN9.out.r).1 1
    have r2 := (kit.blk HN9.out.r).1 2
    have r3 := (kit.blk HN9.out.r).1 3
    have r4 := (kit.blk HN9.out.r).1 4
    go_wp2_with fail
    go_ret
    exact ⟨rfl, HN9.out.below⟩

theorem lawWalk {H : Type} (enc : TypeId × Value → H) (W : World) (base : Nat) (args : Array Value) (ds : List (DataW H)) (p : List MemPlace)
    (hval : ∀ (j : Nat) t v, Tryz.f6.params[j]? = some t → args[j]? = some v → Value.okWide Tryz.prog W .any base t v)
    (hA : DataW.TrodAll enc Tryz.prog W 0 (fun _ => true) true Tryz.f6.params.toList args.toList ds p) :
    Calls Tryz.prog 6 args W fun e w' => e = .returned (.bool true) ∧ Below W.heap.size W w' := by
  rw [Tryz.params6] at hA hval
  obtain ⟨v0, vs0, d0, ds0, p0, q0, hargs, rfl, rfl, h0, r0⟩ := trodAll_cons hA
  obtain ⟨v1, vs1, d1, ds1, p1, q1, rfl, rfl, rfl, h1, r1⟩ := trodAll_cons r0
  obtain ⟨v2, vs2, d2, ds2, p2, q2, rfl, rfl, rfl, h2, r2⟩ := trodAll_cons r1
  obtain ⟨rfl, rfl, rfl⟩ := trodAll_nil r2
  obtain rfl : args = #[v0, v1, v2] := by cases args; simp_all
  obtain ⟨n0, rfl, rfl, rfl, w0⟩ := open_int Tryz.underlying3 (hval 0 3 v0 rfl rfl) h0
  obtain ⟨m0, rfl, rfl, rfl, w1⟩ := open_int Tryz.underlying3 (hval 1 3 v1 rfl rfl) h1
  obtain ⟨cs, rfl, hcs⟩ := okWide_struct Tryz.underlying64 (hval 2 64 v2 rfl rfl)
  rw [show Tryz.prog.cellsOf 64 = 13 by kernel_rfl] at hcs
  obtain ⟨l⟩ := cs
  match l, hcs with
  | [c0, c1, c2, c3, c4, c5, c6, c7, c8, c9, c10, c11, c12], _ => exact nil_ok W n0 m0 c0 c1 c2 c3 c4 c5 c6 c7 c8 c9 c10 c11 c12


theorem laid_met (os : Os) : laidMet Tryz.prog Rows.peerNilRow.laid ((laidWorld os).forCall (fun _ _ => 0) ⟨#[], #[.int .i64 0, .int .i64 0, .agg #[.int .i64 0, .int .i64 0, .int .i64 0, .int .i64 0, .int .i64 0, .int .i64 0, .int .i64 0, .slice none 0 0, .slice none 0 0, .int .i64 0, .int .i64 0, .int .u32 0, .slice none 0 0]], []⟩).memory :=
  laidMet_of_run' 8 (by kernel_rfl) (by kernel_rfl)
theorem reads (os : Os) {H : Type} (enc : TypeId × Value → H) : ∃ places, DataW.whole enc Tryz.prog ((laidWorld os).forCall (fun _ _ => 0) ⟨#[], #[.int .i64 0, .int .i64 0, .agg #[.int .i64 0, .int .i64 0, .int .i64 0, .int .i64 0, .int .i64 0, .int .i64 0, .int .i64 0, .slice none 0 0, .slice none 0 0, .int .i64 0, .int .i64 0, .int .u32 0, .slice none 0 0]], []⟩).memory Tryz.f6.params.toList Rows.peerNilSpec.vars false (#[.int .i64 0, .int .i64 0, .agg #[.int .i64 0, .int .i64 0, .int .i64 0, .int .i64 0, .int .i64 0, .int .i64 0, .int .i64 0, .slice none 0 0, .slice none 0 0, .int .i64 0, .int .i64 0, .int .u32 0, .slice none 0 0]] : Array Value).toList 8 = some ([.lit (.int .i64 0), .lit (.int .i64 0), .agg [.lit (.int .i64 0), .lit (.int .i64 0), .lit (.int .i64 0), .agg [.lit (.int .i64 0), .lit (.int .i64 0)], .lit (.int .i64 0), .lit (.int .i64 0), .nil, .nil, .agg [.lit (.int .i64 0), .lit (.int .i64 0), .lit (.int .u32 0), .nil]]], [], places) :=
  ⟨[], by kernel_rfl⟩

set_option maxRecDepth 100000 in
theorem lifted (os : Os) (started : os.Started) (H : Type) (enc : TypeId × Value → H) (F : Stop.Interp) :
    ReturnsInHanded {} Tryz.checked os 6 .any ((OpenSpec.ofChange Rows.peerNilSpec).preRow enc Tryz.prog Tryz.f6 Rows.peerNilRow.domain false Rows.peerNilRow.laid) (((OpenSpec.ofChange Rows.peerNilSpec).at F).post enc Tryz.prog Tryz.f6 false true false false) := by
  obtain ⟨places, hx⟩ := reads os enc
  refine returnsInHanded_of_row (C := Tryz.checked) (s := (OpenSpec.ofChange Rows.peerNilSpec)) own started (by kernel_rfl) Tryz.func6
    (witness_row_at (enc := enc) (C := Tryz.checked) false (laidWorld os) #[.int .i64 0, .int .i64 0, .agg #[.int .i64 0, .int .i64 0, .int .i64 0, .int .i64 0, .int .i64 0, .int .i64 0, .int .i64 0, .slice none 0 0, .slice none 0 0, .int .i64 0, .int .i64 0, .int .u32 0, .slice none 0 0]] rfl (by kernel_rfl) (by kernel_rfl) (by kernel_rfl)
      (OpenSpec.preRow_of_cond 8 hx (by kernel_rfl) (fun k hk => by cases hk) (by kernel_rfl) (laid_met os))) ?_
  intro W base args ds gs before hval hW hcnd hk hsz hL _ _
  exact law_post_at (C := Tryz.checked) laidOut (fun ds h => by match ds, h with | [_, _, _], _ => rfl) 4 rfl Tryz.underlying4 rfl (by kernel_rfl) hW hsz
    (fun p hA hs => lawWalk enc W base args ds p hval hA )

theorem said : Rows.PeerNilSaid :=
  OpenClaim.holds_of_cond 6 Tryz.f6 rfl rfl rfl rfl rfl rfl rfl ⟨rfl, rfl, rfl, rfl, rfl⟩ rfl rfl rfl rfl rfl (by kernel_rfl) Tryz.func6 (by kernel_rfl)
    (of_decide_eq_true (by kernel_rfl)) (by unfold Func.isWrapper; first | (rw [if_pos (by decide +kernel)]; kernel_rfl) | (rw [if_neg (by decide +kernel)]; exact ⟨rfl, rfl⟩))
    (fun os started H enc _ F => by rw [OpenClaim.pre_eq_preRow]; exact lifted os started H enc F)

theorem plain (f : FuncId) (fn : Func) (hf : Tryz.pinned.checked.prog.funcNamed "purse/purselaw13.PeerNil" = some f) (hfn : Tryz.pinned.checked.prog.funcs[f]? = some fn) :
    false = Tryz.pinned.checked.prog.looks [] ∧ ∀ (j : Nat) t, fn.params[j]? = some t → Tryz.pinned.checked.prog.wantsStandIn t = false := by
  obtain rfl : f = 6 := Option.some.inj ((show Tryz.prog.funcNamed "purse/purselaw13.PeerNil" = some 6 by kernel_rfl).symm.trans hf) |>.symm
  obtain rfl : fn = Tryz.f6 := (Option.some.inj (Tryz.func6.symm.trans hfn)).symm
  refine ⟨by kernel_rfl, ?_⟩
  have h : (Tryz.f6.params.toList.all fun t => ! Tryz.prog.wantsStandIn t) = true := by kernel_rfl
  intro j t ht
  have := List.all_eq_true.1 h t (by simpa using Array.mem_of_getElem? ht)
  have h2 : Tryz.prog.wantsStandIn t = false := by simpa using this
  exact h2

theorem card : Rows.PeerNilCardSaid :=
  Claim7.holds_tied_plain_at .later [] _ _ _ _ said (fun _ h => by cases h) (by kernel_rfl) (fun _ h => by cases h) peerNil_row_tie rfl ⟨rfl, rfl⟩ (by kernel_rfl) rfl plain (by kernel_rfl)
#print axioms card
end Go.Proofs.YtcaakiaenfkeaaaGreatDoor.peerNil
