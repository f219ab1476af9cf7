/-
  NetForks: a fork is alike, and neither shows what is done to the other; what All has told stays.
-/
import Derived.Test.YtnnfagdhigodbaaNetFo
import Derived.Test.YtnnfagdhigodbaaNetW
import Derived.Test.YtnnfagdhigodbaaNetJ
import Derived.Test.YtnnfagdhigodbaaNetFq
import Derived.Test.YtnnfagdhigodbaaKit5
import Derived.Deep.RegionHeld3
import Derived.StillTailTactics
import Derived.Test.YtnnfagdhigodbaaChecked
import Derived.Test.YtnnfagdhigodbaaRows
namespace Go.Proofs.Ytnnfagdhigodbaa.netForks
open Go.ChangeShapes Go.WideShapes Go.ChangeAt Go.RowKit Go.Joins Go.Shelf
open Go.Proofs.Ytnnfagdhigodbaa.kit Go.Proofs.Ytnnfagdhigodbaa.byt Go.Proofs.Ytnnfagdhigodbaa.netc Go.Proofs.Ytnnfagdhigodbaa.netg Go.Proofs.Ytnnfagdhigodbaa.nets Go.Proofs.Ytnnfagdhigodbaa.nett Go.Proofs.Ytnnfagdhigodbaa.nete Go.Proofs.Ytnnfagdhigodbaa.netf Go.Proofs.Ytnnfagdhigodbaa.netq Go.Proofs.Ytnnfagdhigodbaa.netr Go.Proofs.Ytnnfagdhigodbaa.netl Go.Proofs.Ytnnfagdhigodbaa.neti Go.Proofs.Ytnnfagdhigodbaa.neto Go.Proofs.Ytnnfagdhigodbaa.neth Go.Proofs.Ytnnfagdhigodbaa.netj Go.Proofs.Ytnnfagdhigodbaa.netfo Go.Proofs.Ytnnfagdhigodbaa.netfp Go.Proofs.Ytnnfagdhigodbaa.netfq
set_option linter.unusedVariables false
set_option linter.unusedSimpArgs false
set_option maxHeartbeats 4000000
set_option maxRecDepth 100000
attribute [local go_sem] Oper.semAt_some

theorem drop_high {w2 W W' : World} {base n : Nat} {m : Int} {qs : List Q} {S : Cuts} (hN : NetIs w2 base n m qs S) (hb : Below w2.heap.size w2 W) (hm : Moved W W' n) : ∀ k, w2.heap.size ≤ k → k < W.heap.size → W'.heap[k]? = W.heap[k]? := by
  intro k h1 h2
  refine hm.kept k h2 (fun hf => ?_)
  have := (foot_in hN ((foot_same (hb.block n (is_lt hN)) k).1 hf)).2.1
  omega

theorem cnti_step {V W wn : World} {kb : Nat} {pre : List (Int × Pkt)} {x : Int × Pkt} (hz : kb < V.heap.size) (h : CntI V kb pre W) (hb : Below W.heap.size W wn) :
    KeepsOthers W (wn.setCell ⟨kb, 0, none⟩ (.int .i64 ((pre.length : Int) + 1))) ∧ KpZ kb V.heap.size W (wn.setCell ⟨kb, 0, none⟩ (.int .i64 ((pre.length : Int) + 1))) ∧ CntI V kb (pre ++ [x]) (wn.setCell ⟨kb, 0, none⟩ (.int .i64 ((pre.length : Int) + 1))) := by
  have hs := h.keep.size
  refine ⟨⟨by rw [size_set]; exact hb.size, fun j o hj hc => ?_⟩, ⟨by rw [size_set]; exact hb.size, fun j h1 h2 => (hp_set_ne h2).trans (hb.block j (by omega))⟩, ⟨?_, ?_⟩⟩
  · have hw := (hb.block j (Array.getElem?_eq_some_iff.1 hj).1).trans hj
    refine (hp_set_ne (fun e => ?_)).trans hw
    have e' : j = kb := e
    rw [e', h.box] at hj
    cases hj
    simp [Obj.isCells] at hc
  · rw [hp_set (hp_step h.box hb) 0 _]
    simp
  · exact ((h.keep.trans (Keep.of_below hb)).setCell (p := ⟨kb, 0, none⟩) (.inr rfl) _)
theorem snap_kept {V V2 W : World} {base L M rb bb B kb : Nat} {v : Value} {xs ps : List Pkt} {pre : List (Int × Pkt)} (h : Snap V V2 base L M rb bb B v xs ps) (hV : V.heap.size ≤ kb) (hz : kb < V2.heap.size) (hc : CntI V2 kb pre W) : Snap V W base L M rb bb B v xs ps :=
  h.stay (fun k hk _ => hc.keep.block k (by omega) (by show k ≠ kb; omega))
theorem range_box {α : Type} {F : Fence} {n : Nat} {P : Program} {g : Operand} {t0 t1 d0 d1 : Tmp} {assign body : Code} {Q : Exit → Act → World → Prop} {a : Act} {w : World}
    (hro : F.round = none) (h1 : 1 ≤ n) {gf : Nat} {lb : Array Value} (hg : a.eval g = .func (.func gf) #[] lb) (hFg : F.fn gf) (eg : ∀ args w, (callFunc gf args).run P w = .ok (.enter gf args) w)
    {encs : α → Array Value} {Kp : World → World → Prop} {Good : List α → α → World → Prop} {S : List α → Prop} {w0 : World} (hseq : Tells F (n - 1) P gf lb encs Kp Good S w0)
    (hKt : ∀ {A B C : World}, Kp A B → Kp B C → Kp A C) (hKb : ∀ (W : World) (l : Nat) (o : Obj), w.heap.size ≤ l → Kp W (W.putObj l o)) (hKa : ∀ (W : World) (o : Obj), w.heap.size ≤ W.heap.size → Kp W (W.alloc o))
    (hGb : ∀ (pre : List α) (x : α) (W : World) (l : Nat) (o o' : Obj), w.heap.size ≤ l → W.heap[l]? = some o → o.isCells = false → Good pre x W → Good pre x (W.putObj l o')) (hGa : ∀ (pre : List α) (x : α) (W : World) (o : Obj), Good pre x W → Good pre x (W.alloc o))
    (hb0 : Below w0.heap.size w0 w) (hps : ∀ x, (encs x).size = #[t0, t1].size)
    (I : List α → World → Prop) (hI : OwnFrom w.heap.size I) (h0 : I [] w) (v0 v1 : α → Value) (gA : α → Obj)
    (hassign : ∀ (l : Nat) (x : α) (W : World) (K : Act → World → Prop), K { tmps := (((a.tmps.setIfInBounds t0 (v0 x)).setIfInBounds t1 (v1 x)).setIfInBounds d0 (v0 x)).setIfInBounds d1 (.pointer (some ⟨W.heap.size, 0, none⟩)), defers := [] } (W.alloc (gA x)) →
      assign.wpIn (F.inRound l) (n - 1 - 1) P (Exit.then K (fun _ _ _ => False)) { tmps := (#[t0, t1].zip (encs x)).foldl (fun t (p, v) => t.setIfInBounds p v) a.tmps, defers := [] } W)
    (hbody : ∀ (l : Nat) (pre : List α) (x : α) (A : Nat) (W : World), w.heap.size ≤ A → W.heap[A]? = some (gA x) → I pre W → Good pre x W → body.wpIn (F.inRound l) (n - 1 - 1) P (goesOn Kp I (pre ++ [x]) W) { tmps := (((a.tmps.setIfInBounds t0 (v0 x)).setIfInBounds t1 (v1 x)).setIfInBounds d0 (v0 x)).setIfInBounds d1 (.pointer (some ⟨A, 0, none⟩)), defers := [] } W)
    (hdone : ∀ (D : Nat) (xs : List α) (W : World), w.heap.size ≤ D → S xs → I xs W → W.heap[D]? = some (.deferred (some [])) → Q .normal { a with defers := { target := .collected D, args := #[] } :: a.defers } W) :
    (Code.rangeFunc g #[t0, t1] assign body).wpIn F n P Q a w :=
  range_all hro h1 hg hFg eg hseq hKt hKb hKa hGb hGa hb0 hps I hI h0 (fun x A => { tmps := (((a.tmps.setIfInBounds t0 (v0 x)).setIfInBounds t1 (v1 x)).setIfInBounds d0 (v0 x)).setIfInBounds d1 (.pointer (some ⟨A, 0, none⟩)), defers := [] }) gA hassign hbody hdone

theorem goes0 {α : Type} {Kp : World → World → Prop} {I : List α → World → Prop} {xs : List α} {W W' : World} (a : Act) (h1 : KeepsOthers W W') (h2 : Kp W W') (h3 : I xs W') : goesOn Kp I xs W .normal a W' := ⟨h1, h2, h3⟩

theorem forks_ok (w : World) (n0 : Int) (a : Option Addr) (l : List OpV) (cap : Nat) (a2 : Option Addr) (l2 : List OpV) (cap2 : Nat) (hl : l.length ≤ 9223372036854775807) (hat : RowsAt w a 4 (l.map ocells)) (hok : ∀ k (hk : k < l.length), GoodO w (l[k])) (hl2 : l2.length ≤ 9223372036854775807) (hat2 : RowsAt w a2 4 (l2.map ocells)) (hok2 : ∀ k (hk : k < l2.length), GoodO w (l2[k])) :
    Calls Try.prog 7 #[.int .i64 n0, .slice a l.length cap, .slice a2 l2.length cap2] w fun e w' => e = .returned (.bool true) ∧ Below w.heap.size w w' := by
  obtain ⟨hm1, hm2⟩ := most_in n0
  obtain ⟨w0, hw0⟩ : ∃ w0 : World, w0 = w.alloc (.cells #[.bool false] 4) := ⟨_, rfl⟩
  have hb0 : Below w.heap.size w w0 := by rw [hw0]; exact below_new1 _ _
  have hrb : w0.heap[w.heap.size]? = some (.cells #[.bool false] 4 (0, 0)) := by rw [hw0]; exact hp_alloc_new _ _
  have hs0 : w0.heap.size = w.heap.size + 1 := by rw [hw0, size_new]
  have HRan := Lib.hid (ran_ok w0 n0 a l cap hl (hat.below hb0) (fun k hk => (hok k hk).below hb0))
  have HFit := Lib.hid (stOf_fit (most n0) l)
  obtain ⟨qs, hqs⟩ : ∃ qs, qs = (stOf (most n0) l).qs := ⟨_, rfl⟩
  obtain ⟨S, hS⟩ : ∃ S, S = (stOf (most n0) l).S := ⟨_, rfl⟩
  rw [← hqs, ← hS, hs0] at HRan
  rw [← hqs] at HFit
  obtain ⟨m, hm⟩ : ∃ m, m = most n0 := ⟨_, rfl⟩
  rw [← hm] at HRan hm1
  have HB0 := Lib.hid hb0
  have HRB := Lib.hid hrb
  have HW0 := Lib.hid hw0
  have HAT2 := Lib.hid hat2
  have HOK2 := Lib.hid hok2
  clear hqs hS hm hm2 hat hok hb0 hrb hw0 hat2 hok2
  refine (callsIn_wide (n := 5)).1 ?_
  refine callsIn_of_wp_marks Try.func7 rfl trivial ?_ rfl
  simp only [Try.ntmps7, List.size_toArray, List.length_cons, List.length_nil, Nat.reduceAdd, Nat.reduceSub, Array.replicate_succ, Array.replicate_zero, List.push_toArray, List.append_toArray, List.nil_append, List.cons_append]
  refine wpIn_wide.2 ?_
  go_wp2_with fail
  rw [← HW0.out]
  refine HRan.out.mono ?_; rintro e w1 ⟨rfl, hn1, hb1⟩
  have HN1 := Lib.hid hn1
  have HB1 := Lib.hid (HB0.out.trans (Below.mono hb1 (by omega)))
  have HR1 := Lib.hid ((hb1.block w.heap.size (by omega)).trans HRB.out)
  clear hn1 hb1 HRan HRB HB0
  go_wp2_with fail
  refine (awake_ok w1).mono ?_; rintro e w2 ⟨rfl, hb2⟩
  have HN2 := Lib.hid (HN1.out.below hb2)
  have HB2 := Lib.hid (below_step HB1.out hb2)
  have HR2 := Lib.hid (hp_step HR1.out hb2)
  clear hb2 HN1 HB1 HR1
  go_wp2_with fail
  refine (fork_ok w2 _ _ _ _ _ HN2.out HFit.out).mono ?_; rintro e w3 ⟨f, rfl, hf3, hb3⟩
  have HN3 := Lib.hid (HN2.out.below hb3)
  have HF3 := Lib.hid hf3
  have HB3 := Lib.hid hb3
  have hs3 := hb3.size
  clear hf3 hb3
  go_wp2_with fail
  refine (list_ok w3 _ _ _ _ _ HN3.out HFit.out).mono ?_; rintro e w4 ⟨v4, rfl, ht4, hb4⟩
  obtain ⟨a4, c4, xs, rfl, hxq, hr4, hbd4⟩ := ht4.ps
  have HXQ := Lib.hid hxq
  have HR4 := Lib.hid hr4
  have HBD4 := Lib.hid hbd4
  have HB4 := Lib.hid hb4
  have hs4 := hb4.size
  clear ht4 hxq hr4 hbd4 hb4
  go_wp2_with fail
  obtain ⟨w5, hw5⟩ : ∃ w5 : World, w5 = w4.alloc (.cells #[.slice a4 xs.length c4] 43) := ⟨_, rfl⟩
  rw [← hw5]
  have hb5 : Below w4.heap.size w4 w5 := by rw [hw5]; exact below_new1 _ _
  have hbb : w5.heap[w4.heap.size]? = some (.cells #[.slice a4 xs.length c4] 43 (0, 0)) := by rw [hw5]; exact hp_alloc_new _ _
  have hs5 : w5.heap.size = w4.heap.size + 1 := by rw [hw5, size_new]
  have HBB := Lib.hid hbb
  have HF5 := Lib.hid ((HF3.out.below HB4.out).below hb5)
  have HB5 := Lib.hid hb5
  clear hw5 hb5 hbb
  refine (list_ok w5 _ _ _ _ _ HF5.out HFit.out).mono ?_; rintro e w6 ⟨v6, rfl, ht6, hb6⟩
  obtain ⟨a6, c6, ys, rfl, hyq, hr6, hbd6⟩ := ht6.ps
  have hs6 := hb6.size
  have hb46 := below_step HB5.out hb6
  have HBB6 := Lib.hid (hp_step HBB.out hb6)
  obtain ⟨g0, g1, g2⟩ := blk1 HBB6.out
  have HS6 := Lib.hid (same_any w6 (.slice a6 ys.length c6) (.slice a4 xs.length c4) ys xs ⟨⟨_, a6, c6, rfl, hr6⟩, fun p hp => body_rd (hbd6 p hp)⟩ ⟨⟨_, a4, c4, rfl, own_below HR4.out hb46⟩, fun p hp => body_rd (own_below (HBD4.out p hp) hb46)⟩ (hyq.trans HXQ.out.symm))
  have HB46 := Lib.hid hb46
  clear ht6 hyq hr6 hbd6 hb6 hb46
  go_wp2_with fail
  refine HS6.out.mono ?_; rintro e w7 ⟨rfl, hb7⟩
  have hs7 := hb7.size
  have HB47 := Lib.hid (below_step HB46.out hb7)
  obtain ⟨ps, hA2, hps⟩ := HN2.out
  have HB27 := Lib.hid (below_step (below_step HB3.out HB4.out) HB47.out)
  have HBB7 := Lib.hid (hp_step HBB6.out hb7)
  have hFp : Fit (ps.map q) := by rw [hps]; exact HFit.out
  have HAll := Lib.hid (all_some w7 _ _ _ ps S (hA2.below HB27.out) (by have := hFp.1; rwa [List.length_map] at this))
  have HA2 := Lib.hid hA2
  have HPS := Lib.hid hps
  have HFP := Lib.hid hFp
  clear hb7 HS6 g0 g1 g2 hA2 hps hFp
  go_wp2_with fail
  refine HAll.out.mono ?_; rintro e w8 ⟨B, aB, cB, rfl, rfl, hBb, hrow, hb8⟩
  have hs8 := hb8.size
  have hbb8 := hp_step HBB7.out hb8
  have h28 := below_step HB27.out hb8
  have h48 := below_step HB47.out hb8
  have hs2 := HB2.out.size
  have hSnap : Snap w8 w8 (w.heap.size + 1) w2.heap.size w3.heap.size w.heap.size w4.heap.size w7.heap.size (.slice a4 xs.length c4) xs ps :=
    Snap.start HA2.out HFP.out hs3 HR2.out (by omega) h28 hbb8 (by omega) HR4.out HBD4.out h48 hBb (by omega) (own_mono hrow (by omega))
  have HSN := Lib.hid hSnap
  have HB38 := Lib.hid (below_step HB4.out h48)
  have HGO := Lib.hid (Gone.start ((HF3.out.below HB4.out).below h48) HFit.out)
  have H28 := Lib.hid h28
  clear hbb8 h28 h48 hSnap hBb hrow hb8 HAll HBB HBB6 HBB7 HF5 HB5 HB46 HB47 HB27
  go_wp2_with fail
  go_loopw [14] (fun i wr => ∃ k : Nat, k ≤ l2.length ∧ i = .int .i64 k ∧ ∃ qsF SF, Hid (Gone w8 wr w2.heap.size f m qsF SF)) (fun i _ => l2.length - (intOf i).toNat)
  case atStart => exact ⟨0, Nat.zero_le _, rfl, _, _, HGO⟩
  case round =>
    obtain ⟨k, hk, rfl, qsF, SF, hG⟩ := hrel
    have HW := Lib.hid (H28.out.trans hG.out.below)
    by_cases hlt : k < l2.length
    · have hBW := below_step HB2.out HW.out
      obtain ⟨g, off, rfl, hgz, r0, r1, r2, r3⟩ := row_op (HAT2.out.below hBW) k hlt
      have HG := Lib.hid ((HOK2.out k hlt).below hBW)
      obtain ⟨o, ho⟩ : ∃ o, o = l2[k] := ⟨_, rfl⟩
      rw [← ho] at r0 r1 r2 r3 HG
      have hsz : w2.heap.size ≤ wr.heap.size := by have := hG.out.below.size; omega
      clear ho hBW
      by_cases hk1 : o.kind = 1
      · rw [hk1] at r0
        have HC := Lib.hid (deliverm wr w2.heap.size f m qsF SF o.a hG.out.net hsz)
        clear hk1
        go_wp2_with fail
        refine HC.out.mono ?_; rintro e w9 ⟨v9, rfl, _, hn9, hb9, hm9⟩
        have HG9 := Lib.hid (hG.out.op hn9 (hG.out.fit.take o.a) hb9 hm9)
        clear hn9 hb9 hm9 HC r0 r1 r2 r3
        go_wp2_with fail
        go_roundw
        case rel => exact ⟨k + 1, by omega, by go_num, _, _, HG9⟩
        case measure => simp [intOf]; omega
      · by_cases hk2 : o.kind = 2
        · rw [hk2] at r0
          have HC := Lib.hid (dropm wr w2.heap.size f m qsF SF o.a hG.out.net hsz)
          clear hk1 hk2
          go_wp2_with fail
          refine HC.out.mono ?_; rintro e w9 ⟨rfl, hn9, hb9, hm9⟩
          have HG9 := Lib.hid (hG.out.op hn9 (hG.out.fit.take o.a) hb9 hm9)
          clear hn9 hb9 hm9 HC r0 r1 r2 r3
          go_wp2_with fail
          go_roundw
          case rel => exact ⟨k + 1, by omega, by go_num, _, _, HG9⟩
          case measure => simp [intOf]; omega
        · have hbd : Below wr.heap.size wr wr.drew := below_drewN (Below.refl _ wr) 1
          have HGd := Lib.hid (hG.out.old hsz hbd)
          have HOd := Lib.hid (HG.out.below hbd)
          have d1 : wr.drew.cell? ⟨g, off + k * 4 + 1, none⟩ = some (.int .i64 o.a) := r1
          have d2 : wr.drew.cell? ⟨g, off + k * 4 + 2, none⟩ = some (.int .i64 o.b) := r2
          have d3 : wr.drew.cell? ⟨g, off + k * 4 + 3, none⟩ = some (.slice o.ad o.l.length o.c) := r3
          clear hbd
          by_cases hk4 : o.kind = 4
          · rw [hk4] at r0
            have HC := Lib.hid (cutm wr.drew w2.heap.size f m qsF SF o.a o.b HGd.out.net hsz)
            clear hk1 hk2 hk4
            go_wp2_with fail
            go_still_tail 11, (by kernel_rfl)
            change wpList _ _ _ _ _ wr.drew
            go_wp2_with fail
            refine HC.out.mono ?_; rintro e w9 ⟨rfl, hn9, hb9, hm9⟩
            have HG9 := Lib.hid (HGd.out.op hn9 HGd.out.fit hb9 hm9)
            clear hn9 hb9 hm9 HC r0 r1 r2 r3 d1 d2 d3
            go_wp2_with fail
            go_roundw
            case rel => exact ⟨k + 1, by omega, by go_num, _, _, HG9⟩
            case measure => simp [intOf]; omega
          · have e1 : (o.kind == 1) = false := by simpa using hk1
            have e2 : (o.kind == 2) = false := by simpa using hk2
            have e4 : (o.kind == 4) = false := by simpa using hk4
            have HC := Lib.hid (sendm wr.drew w2.heap.size f m qsF SF o.a o.b o.ad o.l o.c HGd.out.net hsz HOd.out.nil HOd.out.lie)
            clear hk1 hk2 hk4
            go_wp2_with fail
            go_still_tail 16, (by kernel_rfl)
            change wpList _ _ _ _ _ wr.drew
            go_wp2_with fail
            refine HC.out.mono ?_; rintro e w9 ⟨rfl, hn9, hb9, hm9⟩
            have HG9 := Lib.hid (HGd.out.op hn9 (HGd.out.fit.send SF o.a o.b o.l) hb9 hm9)
            clear hn9 hb9 hm9 HC r0 r1 r2 r3 d1 d2 d3
            go_wp2_with fail
            go_roundw
            case rel => exact ⟨k + 1, by omega, by go_num, _, _, HG9⟩
            case measure => simp [intOf]; omega
    · obtain rfl : k = l2.length := by omega
      go_wp2_with fail
      have hGlo := hG.out.below.size
      have hL1 := (blk HR2.out).2.2
      have hSE := Lib.hid (HSN.out.stay (stay_fork HF3.out HB38.out (show w.heap.size + 1 ≤ w2.heap.size by omega) hG.out))
      obtain ⟨lo, hlo⟩ : ∃ lo, lo = wr.heap.size := ⟨_, rfl⟩
      refine (list_ok wr _ _ _ _ _ (HN2.out.below HW.out) HFit.out).mono ?_; rintro e w9 ⟨v9, rfl, ht9, hb9⟩
      obtain ⟨a9, c9, zs, rfl, hzq, hr9, hbd9⟩ := ht9.ps
      rw [← hlo] at hr9 hbd9
      have hs9 := hb9.size
      have HSN9 := Lib.hid (hSE.out.stay (Stay.below hb9 hGlo))
      obtain ⟨g0, g1, g2⟩ := blk1 HSN9.out.hbb.1
      have HS9 := Lib.hid (same_any w9 (.slice a9 zs.length c9) (.slice a4 xs.length c4) zs xs ⟨⟨_, a9, c9, rfl, hr9⟩, fun p hp => body_rd (hbd9 p hp)⟩ HSN9.out.rowp (hzq.trans HXQ.out.symm))
      have HR9 := Lib.hid hr9
      have HBD9 := Lib.hid hbd9
      have HW9 := Lib.hid (below_step HW.out hb9)
      have hzl : zs.length = xs.length := by have h := congrArg List.length (hzq.trans HXQ.out.symm); rwa [List.length_map, List.length_map] at h
      have HZL := Lib.hid hzl
      have hz256 : zs.length ≤ 256 := by have h := HFit.out.1; rw [← hzq, List.length_map] at h; exact h
      have HZ16 := Lib.hid (fun (y : Pkt) (hy : y ∈ zs) => HFit.out.2 (q y) (by rw [← hzq]; exact List.mem_map_of_mem hy))
      rw [← hlo] at hs9 hGlo
      clear ht9 hzq hr9 hbd9 hb9 hzl hG HW hlo hSE
      go_wp2_with fail
      refine HS9.out.mono ?_; rintro e w10 ⟨rfl, hb10⟩
      have hs10 := hb10.size
      have HSN10 := Lib.hid (HSN9.out.stay (Stay.below hb10 (by omega)))
      have HW10 := Lib.hid (below_step HW9.out hb10)
      have HR10 := Lib.hid (own_below HR9.out hb10)
      have HBD10 := Lib.hid (fun y hy => own_below (HBD9.out y hy) hb10)
      have hsw := HW10.out.size
      have hs2 := HB2.out.size
      have HDr := Lib.hid (dropm w10 _ _ _ _ _ 0 (HN2.out.below HW10.out) (by omega))
      clear hb10 HS9 g0 g1 g2 HSN9 HW9 HR9 HBD9
      go_wp2_with fail
      refine HDr.out.mono ?_; rintro e w11 ⟨rfl, hn11, hb11, hm11⟩
      have HSN11 := Lib.hid (HSN10.out.stay (stay_drop HN2.out HW10.out hs3 hm11 hb11 (by omega)))
      have HB11 := Lib.hid (HB2.out.trans ((Below.mono HW10.out hs2).trans (Below.mono hb11 (by omega))))
      have hk11 := drop_high HN2.out HW10.out hm11
      have hAf : After lo w11 w11 a9 c9 zs := After.start (own_kept HR10.out (fun g hg => hk11 g (by have := own_from HR10.out g hg; omega) (own_from HR10.out g hg).2)) (fun y hy => own_kept (HBD10.out y hy) (fun g hg => hk11 g (by have := own_from (HBD10.out y hy) g hg; omega) (own_from (HBD10.out y hy) g hg).2))
      have HAF := Lib.hid hAf
      have hs11 : lo ≤ w11.heap.size := Nat.le_trans (by omega) hm11.size
      clear hn11 hb11 hm11 hk11 hAf HDr HSN10 HW10 HR10 HBD10
      go_wp2_with fail
      go_loopw [17] (fun i wr => ∃ k : Nat, k ≤ zs.length ∧ i = .int .i64 k ∧ Hid (After lo w11 wr a9 c9 zs)) (fun i _ => zs.length - (intOf i).toNat)
      case atStart => exact ⟨0, Nat.zero_le _, rfl, HAF⟩
      case round =>
        obtain ⟨i, hi, rfl, hA⟩ := hrel
        by_cases hlt2 : i < zs.length
        · obtain ⟨gz, rfl⟩ := own_ptr hA.out.row (by omega)
          have HCL := Lib.hid (fun (W : World) (h : After lo w11 W (some ⟨gz, 0, none⟩) c9 zs) => (pk_cells h.row hlt2).2.2)
          have HBY := Lib.hid (fun (W : World) (h : After lo w11 W (some ⟨gz, 0, none⟩) c9 zs) => h.bodies zs[i] (List.getElem_mem hlt2))
          have hy16 : zs[i].l.length ≤ 16384 := HZ16.out _ (List.getElem_mem hlt2)
          obtain ⟨y, hy⟩ : ∃ y, y = zs[i] := ⟨_, rfl⟩
          rw [← hy] at HCL HBY hy16
          clear hy
          go_wp2_with fail
          go_loopw [18] (fun j wr => ∃ k : Nat, k ≤ y.l.length ∧ j = .int .i64 k ∧ Hid (After lo w11 wr (some ⟨gz, 0, none⟩) c9 zs)) (fun j _ => y.l.length - (intOf j).toNat)
          case atStart => exact ⟨0, Nat.zero_le _, rfl, hA⟩
          case round =>
            obtain ⟨j, hj, rfl, hAj⟩ := hrel
            have r2 := HCL.out wr hAj.out
            by_cases hlt3 : j < y.l.length
            · obtain ⟨gy, cur, hya, hcur, hcz, hgl⟩ := (HBY.out wr hAj.out).resolve_left (by omega)
              rw [hya] at r2
              have hx : wr.cell? ⟨gy, j, none⟩ = some cur[j] := by rw [(blk hcur).1 j]; exact Array.getElem?_eq_getElem _
              have HA2 := Lib.hid (hAj.out.put (j := j) (v := .int .u8 99) hcur hgl)
              have hfz : wr.frozen? ⟨gy, j, none⟩ = false := (blk hcur).2.1 j
              clear hcur
              go_wp2_with fail
              go_roundw
              case rel => exact ⟨j + 1, by omega, by go_num, HA2⟩
              case measure => simp [intOf]; omega
            · obtain rfl : j = y.l.length := by omega
              go_wp2_with fail
              refine ⟨⟨i + 1, by omega, by go_num, hAj⟩, ?_⟩
              simp [intOf]; omega
        · obtain rfl : i = zs.length := by omega
          go_wp2_with fail
          obtain ⟨kb, hkb⟩ : ∃ kb, kb = wr.heap.size := ⟨_, rfl⟩
          obtain ⟨w12, hw12⟩ : ∃ w12 : World, w12 = wr.alloc (.cells #[.int .i64 0] 3) := ⟨_, rfl⟩
          have hbx : w12.heap[kb]? = some (.cells #[.int .i64 0] 3 (0, 0)) := by rw [hw12, hkb]; exact hp_alloc_new _ _
          have hs12 : w12.heap.size = kb + 1 := by rw [hw12, size_new, hkb]
          have hb12 : Below lo w11 w12 := by rw [hw12]; exact hA.out.below.trans (Below.mono (below_new1 wr _) (Nat.le_trans hs11 hA.out.below.size))
          have hlk : lo ≤ kb := by rw [hkb]; exact Nat.le_trans hs11 hA.out.below.size
          rw [← hw12, ← hkb]
          have HSN12 := Lib.hid (HSN11.out.stay (Stay.below hb12 hGlo))
          have HB12 := Lib.hid (HB11.out.trans (Below.mono hb12 (by omega)))
          clear hw12 hkb hb12 hA HAF HSN11 HB11
          refine (wpIn_wide (n := 5)).1 ?_
          refine range_box rfl (by omega) (gf := 41) (lb := #[.pointer (some ⟨w7.heap.size, 0, none⟩)]) rfl trivial (enters_of Try.func41 (by kernel_rfl) rfl)
            (all_it 4 (by omega) kb w12.heap.size _ ps w12 (HSN12.out.itp (by omega) (by omega)) (Nat.le_refl _)) KpZ.trans (fun W l o hl => KpZ.put (Nat.le_refl _) W l o hl) (fun W o hW => KpZ.of_below (below_new1 W o) hW) (good_put w12 ps) (fun pre x W o hg => good_alloc hg o) (Below.refl _ _) (fun _ => rfl)
            (CntI w12 kb) (cnti_own w12 kb) ⟨hbx, Keep.refl _ _⟩ (d0 := 20) (d1 := 21) (fun x => .int .i64 x.1) (fun x => x.2.val) (fun x => .cells #[.int .i64 x.2.f, .int .i64 x.2.t, .slice x.2.a x.2.l.length x.2.c] 48) ?assign ?body ?done
          case assign =>
            intro l x W K hK
            simp only [Pkt.val] at hK ⊢
            gi_wp2
            simpa using hK
          case body =>
            rintro l pre x A W hA hbA hC ⟨hx1, hx2, hx3⟩
            have hlt : pre.length < ps.length := by have := (List.getElem?_eq_some_iff.1 hx2).1; rwa [List.length_map] at this
            have hxl : xs.length = ps.length := by have h := congrArg List.length (HXQ.out.trans HPS.out.symm); rwa [List.length_map, List.length_map] at h
            have hlt' : pre.length < xs.length := by omega
            have hSW := snap_kept HSN12.out (by omega) (by omega) hC
            obtain ⟨gx, cx, hvx, hgx, hcapx, q0, q1, q2⟩ := hSW.rowp.cells hlt'
            simp only [Value.slice.injEq, true_and] at hvx
            obtain ⟨rfl, rfl⟩ := hvx
            have hxq : q x.2 = q xs[pre.length] := by
              rw [HPS.out, ← HXQ.out] at hx2
              simpa [hlt'] using hx2.symm
            have hdr : Below W.heap.size W W.drew := below_drewN (Below.refl _ W) 1
            have hSC := samep_any W.drew x.2 xs[pre.length] (body_rd (own_below hx3 hdr)) ((hSW.rowp.rd _ (List.getElem_mem hlt')).below hdr)
            rw [(sameQ_iff _ _).2 hxq] at hSC
            obtain ⟨k0, k1, k2⟩ := blk1 hC.box
            obtain ⟨b0, b1, b2⟩ := blk1 hSW.hbb.1
            obtain ⟨p0, p1, p2, _, _, _, pz⟩ := blk3 hbA
            have HSC := Lib.hid hSC
            simp only [Pkt.val] at HSC
            have HDR := Lib.hid hdr
            have HC := Lib.hid hC
            have hx1' : x.1 = (pre.length : Int) := hx1
            have t1 : ((pre.length : Int) != (pre.length : Int)) = false := by simp
            have t2 : decide ((xs.length : Int) ≤ (pre.length : Int)) = false := decide_eq_false (by omega)
            have t3 : ¬ (xs.length : Int) ≤ (pre.length : Int) := by omega
            have hkz : kb < w12.heap.size := by omega
            have hpl : pre.length ≤ 256 := by have h := HFP.out.1; rw [List.length_map] at h; omega
            clear hSW hC hx1 hx2 hx3 hbA hdr hSC hxq hl hl2 hs0 hm1 hs3 hs4 hs5 hs6 hs7 hs8 hs2 hs9 hs10 hs11 hsw hlt hL1 hxl hk hlk hs12 hbx hi hlt2 hz256
            clear hGlo
            simp only [hx1', List.setIfInBounds_toArray, List.set_cons_zero, List.set_cons_succ, Pkt.val]
            gi_wp2
            refine wpIn_region_still_tail 15 (by kernel_rfl) (by kernel_rfl) (by kernel_rfl) ?_
            simp only [List.take_succ_cons, List.take_zero, List.drop_succ_cons, List.drop_zero]
            repeat still_step
            refine wpStill_nil ?_
            change wpListIn _ _ _ _ _ _ _ W.drew
            gi_wp2
            refine ⟨trivial, ?_⟩
            refine (callsIn_wide.2 HSC.out).mono ?_; rintro e wn ⟨rfl, hbn⟩
            have hbW := below_step HDR.out hbn
            obtain ⟨e0, e1, e2⟩ := blk1 (hp_step HC.out.box hbW)
            obtain ⟨hke, hkp, hci⟩ := cnti_step (x := x) hkz HC.out hbW
            have HKE := Lib.hid hke
            have HKP := Lib.hid hkp
            have HCI := Lib.hid hci
            clear hbn hbW hke hkp hci HSC
            gi_wp2
            exact goes0 _ HKE.out HKP.out HCI.out
          case done =>
            rintro D rs W hD hrs hC hK
            have hSW := snap_kept HSN12.out (by omega) (by omega) hC
            have hxl : xs.length = ps.length := by have h := congrArg List.length (HXQ.out.trans HPS.out.symm); rwa [List.length_map, List.length_map] at h
            obtain ⟨hbx, hkp⟩ := hC
            rw [hrs, ← hxl] at hbx
            obtain ⟨k0, k1, k2⟩ := blk1 hbx
            obtain ⟨b0, b1, b2⟩ := blk1 hSW.hbb.1
            obtain ⟨r0, r1, r2⟩ := blk1 hSW.hrb.1
            have hBW : Below w.heap.size w W := HB12.out.trans (hkp.below (by omega) (fun k hk => by show k ≠ kb; omega))
            have hrz := hSW.hrb.2
            obtain ⟨WF, hWF⟩ : ∃ WF : World, WF = W.setCell ⟨w.heap.size, 0, none⟩ (.bool true) := ⟨_, rfl⟩
            have hKF : WF.heap[D]? = some (.deferred (some [])) := by rw [hWF]; exact (hp_set_ne (show D ≠ w.heap.size by omega)).trans hK
            have hRF : WF.heap[w.heap.size]? = some (.cells #[.bool true] 4 (0, 0)) := by rw [hWF]; exact hp_set hSW.hrb.1 0 _
            have hgr := grownBy_putObj' WF D (.deferred none)
            have hRE := (hgr.block w.heap.size (blk1 hRF).2.2 (fun e => by have := Option.some.inj e; omega)).trans hRF
            have hBF : Below w.heap.size w WF := by rw [hWF]; exact hBW.setCell (p := ⟨w.heap.size, 0, none⟩) (Nat.le_refl _) _
            have hBE : Below w.heap.size w (WF.putObj D (.deferred none)) := hBF.grown hgr hBF.size (fun j hj => by simp at hj; omega)
            have HKF := Lib.hid hKF
            have HRE := Lib.hid hRE
            have HBE := Lib.hid hBE
            have HWF := Lib.hid hWF
            clear hbx hSW hkp hKF hRF hgr hRE hBF hBE hWF hBW hK
            gi_wp2
            go_wp2_with fail
            rw [← HWF.out]
            refine ⟨by simp, .inl ⟨_, _, rfl, run_takeDeferred HKF.out, ?_⟩⟩
            have e0 := (blk1 HRE.out).1
            obtain ⟨WE, hWE⟩ : ∃ WE, WE = WF.putObj D (.deferred none) := ⟨_, rfl⟩
            rw [← hWE] at e0 HBE ⊢
            clear hWE k0 k1 k2 b0 b1 b2 r0 r1 r2
            exact ⟨.bool true, by simp [results, Try.results7, go_sem, e0, Result.andThen], rfl, HBE.out⟩

theorem lawWalk {H : Type} (enc : TypeId × Value → H) : LawWalk enc Try.prog 7 Try.f7 (fun _ => True) := by
  intro W base args ds p hval hA hsz _
  rw [Try.params7] at hA hval hsz
  obtain ⟨v0, vs0, d0, ds0, p0, q0, hargs, rfl, rfl, h0, r0⟩ := trodAll_cons hA
  obtain ⟨v1, vs1, d1, ds1, p1, q1, rfl, rfl, rfl, h1, r1⟩ := trodAll_cons r0
  obtain ⟨v2, vs2, d2, ds2, p2, q2, rfl, rfl, rfl, h2, r2⟩ := trodAll_cons r1
  obtain ⟨rfl, rfl, rfl⟩ := trodAll_nil r2
  obtain rfl : args = #[v0, v1, v2] := by cases args; simp_all
  obtain ⟨n0, rfl, rfl, rfl, w0⟩ := open_int Try.underlying3 (hval 0 3 v0 rfl rfl) h0
  obtain ⟨a, l, cap, es, sp, rfl, hlc, hcm, hn, hat, hd, hel, hsp, hgood⟩ := open_slice_gen 4 ocells (fun o _ => GoodO W o) Try.underlying22 (by kernel_rfl) (by omega) (fun n cs y _ h => elem_op n cs y h) (hval 1 22 v1 rfl rfl) h1
  obtain ⟨a2, l2, cap2, es2, sp2, rfl, hlc2, hcm2, hn2, hat2, hd2, hel2, hsp2, hgood2⟩ := open_slice_gen 4 ocells (fun o _ => GoodO W o) Try.underlying22 (by kernel_rfl) (by omega) (fun n cs y _ h => elem_op n cs y h) (hval 2 22 v2 rfl rfl) h2
  exact forks_ok W n0 a l cap a2 l2 cap2 (by unfold maxLen at hcm; omega) hat (fun k hk => hgood k hk (by omega)) (by unfold maxLen at hcm2; omega) hat2 (fun k hk => hgood2 k hk (by omega))

theorem own : ownKnob Try.prog.godebug = none := by kernel_rfl
theorem laidOut : laidOutB Try.prog = true := by kernel_rfl

set_option maxRecDepth 100000 in
theorem lifted (os : Os) (started : os.Started) (H : Type) (enc : TypeId × Value → H) :
    ReturnsInHanded {} Try.checked os 7 .any (Rows.netForksSpec.pre6 enc Try.prog Try.f7 Rows.netForksRow.domain false) (Rows.netForksSpec.post enc Try.prog Try.f7 false true false false) := by
  refine returnsInHanded_of_change_sized (C := Try.checked) own started (by kernel_rfl) Try.func7
    (ChangeSpec.witness6 (enc := enc) (C := Try.checked) false ⟨#[], #[.int .i64 0, .slice none 0 0, .slice none 0 0], []⟩ 8 (by kernel_rfl) (by kernel_rfl) (by kernel_rfl) (by kernel_rfl)) ?_
  intro W base args ds gs before hval hW hcnd hsz _
  exact law_post (C := Try.checked) laidOut (fun ds h => by match ds, h with | [_, _, _], _ => rfl) 4 rfl Try.underlying4 rfl (by kernel_rfl) hval hW hsz trivial (lawWalk enc)

theorem proved : Rows.NetForksSaid :=
  OpenClaim.holds_of_wide 7 Try.f7 rfl rfl rfl rfl rfl rfl rfl ⟨rfl, rfl, rfl, rfl, rfl⟩ rfl rfl rfl rfl rfl (by kernel_rfl) Try.func7 (by kernel_rfl)
    (of_decide_eq_true (by kernel_rfl)) (by unfold Func.isWrapper; first | (rw [if_pos (by decide +kernel)]; kernel_rfl) | (rw [if_neg (by decide +kernel)]; exact ⟨rfl, rfl⟩))
    (fun os started H enc _ => lifted os started H enc)
#print axioms proved
end Go.Proofs.Ytnnfagdhigodbaa.netForks
