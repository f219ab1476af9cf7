/-
  NetFull: never more than MaxPackets are under way; what is refused changes nothing.
-/
import Derived.Test.YtnnfagdhigodbaaNetW
import Derived.Test.YtnnfagdhigodbaaChecked
import Derived.Test.YtnnfagdhigodbaaRows
import Derived.Deep.CutRange
namespace Go.Proofs.Ytnnfagdhigodbaa.netFull
open Go.ChangeShapes Go.WideShapes Go.ChangeAt Go.RowKit Go.Joins
open Go.Proofs.Ytnnfagdhigodbaa.kit Go.Proofs.Ytnnfagdhigodbaa.byt Go.Proofs.Ytnnfagdhigodbaa.netc Go.Proofs.Ytnnfagdhigodbaa.netg Go.Proofs.Ytnnfagdhigodbaa.nets Go.Proofs.Ytnnfagdhigodbaa.netq Go.Proofs.Ytnnfagdhigodbaa.netr
set_option linter.unusedVariables false
set_option linter.unusedSimpArgs false
set_option maxHeartbeats 2000000
set_option maxRecDepth 100000

theorem may11 {m : Int} {n : Nat} (h : 1 ≤ m) (hn : n ≤ 16384) : may m 1 1 n := ⟨⟨by omega, h⟩, ⟨by omega, h⟩, hn⟩

theorem lie_take {w : World} {a : Option Addr} {l : List Nat} (h : Lie w a (bcells l)) (n : Nat) : Lie w a (bcells (l.take n)) := by
  have e : bcells (l.take n) = (bcells l).take n := by simp [bcells, List.map_take]
  rw [e]
  rcases h with h | ⟨b, off, h1, h2, h3⟩
  · left; rw [h]; simp
  · refine .inr ⟨b, off, h1, h2, fun i hi => ?_⟩
    rw [List.length_take] at hi
    rw [h3 i (by omega), List.getElem?_take, if_pos (by omega)]

theorem full_ok (w : World) (n0 : Int) (a : Option Addr) (l : List OpV) (cap : Nat) (ad : Option Addr) (bs : List Nat) (kc : Nat) (hl : l.length ≤ 9223372036854775807) (hat : RowsAt w a 4 (l.map ocells)) (hok : ∀ k (hk : k < l.length), GoodO w (l[k]))
    (hn : ad = none → bs.length = 0 ∧ kc = 0) (hlie : Lie w ad (bcells bs)) (hbc : bs.length ≤ kc) (hkm : kc ≤ maxLen) :
    Calls Try.prog 4 #[.int .i64 n0, .slice a l.length cap, .slice ad bs.length kc] w fun e w' => e = .returned (.bool true) ∧ Below w.heap.size w w' := by
  obtain ⟨hm1, hm2⟩ := most_in n0
  have HRan := Lib.hid (ran_ok w n0 a l cap hl hat hok)
  have HFit := Lib.hid (stOf_fit (most n0) l)
  clear hat hok
  obtain ⟨qs, hqs⟩ : ∃ qs, qs = (stOf (most n0) l).qs := ⟨_, rfl⟩
  obtain ⟨S, hS⟩ : ∃ S, S = (stOf (most n0) l).S := ⟨_, rfl⟩
  rw [← hqs, ← hS] at HRan
  rw [← hqs] at HFit
  obtain ⟨m, hm⟩ : ∃ m, m = most n0 := ⟨_, rfl⟩
  rw [← hm] at HRan hm1
  clear hqs hS hm hm2
  have HL := Lib.hid (fun W (h : Below w.heap.size w W) => hlie.below h)
  clear hlie
  by_cases hlong : bs.length ≤ 16384
  · obtain ⟨n, hln⟩ : ∃ n, n = bs.length := ⟨_, rfl⟩
    obtain ⟨cs, hcs⟩ : ∃ cs, cs = bs := ⟨_, rfl⟩
    have hn2 : ad = none → cs.length = 0 ∧ kc = 0 := by rw [hcs]; exact hn
    have hcl : cs.length = n := by rw [hcs, hln]
    have HLc := Lib.hid (fun W (h : Below w.heap.size w W) => (show Lie W ad (bcells cs) by rw [hcs]; exact HL.out W h))
    have hnn : n ≤ 16384 := by omega
    have ht : decide ((16384 : Int) < n) = false := decide_eq_false (by omega)
    have ht2 : ¬ (16384 : Int) < n := by omega
    rw [← hln]
    clear hcs HL hln hlong hn hbc
    go_enter Try.func4, Try.ntmps4
    go_wp2_with fail
    refine HRan.out.mono ?_; rintro e w1 ⟨rfl, hn1, hb1⟩
    have HN1 := Lib.hid hn1
    have HB1 := Lib.hid hb1
    clear hn1 hb1 HRan
    go_wp2_with fail
    refine (awake_ok w1).mono ?_; rintro e w2 ⟨rfl, hb2⟩
    have HN2 := Lib.hid (HN1.out.below hb2)
    have HB2 := Lib.hid (below_step HB1.out hb2)
    clear hb2
    go_wp2_with fail
    refine (healq w2 _ _ _ _ _ HN2.out HB2.out.size).mono ?_; rintro e w3 ⟨rfl, hn3, hb3⟩
    have HN3 := Lib.hid hn3
    have HB3 := Lib.hid (HB2.out.trans hb3)
    clear hn3 hb3 HN1 HB1 HN2 HB2
    go_wp2_with fail
    go_loopw [8] (fun i wr => ∃ (k : Nat) (qs' : List Q), k ≤ 259 ∧ i = .int .i64 k ∧ Hid (qs'.length = min 256 (qs.length + k)) ∧ Hid (Fit qs') ∧ Hid (NetIs wr w.heap.size (w.heap.size + 1) m qs' []) ∧ Hid (Below w.heap.size w wr)) (fun i _ => 259 - (intOf i).toNat)
    case atStart => exact ⟨0, qs, by omega, rfl, (by have := HFit.out.1; show qs.length = _; omega), HFit, HN3, HB3⟩
    case round =>
      obtain ⟨k, qs', hk, rfl, hlen, hF, hN, hB⟩ := hrel
      by_cases hlt : k < 259
      · have HC := Lib.hid (sendq wr _ _ _ _ _ 1 1 ad cs kc hN.out hB.out.size hn2 (HLc.out wr hB.out))
        rw [hcl] at HC
        have hmay := may11 hm1 hnn
        by_cases hfull : 256 ≤ qs'.length
        · have hE : sendE m qs' [] 1 1 n = 3 := by rw [sendE, if_neg (not_not_intro hmay), if_neg (by simp), if_pos hfull]
          have hQ : sendQ m qs' [] 1 1 cs = qs' := by rw [sendQ, hcl, if_neg (not_not_intro hmay), if_neg (by simp), if_pos hfull]
          rw [hE, hQ] at HC
          have h256 : qs'.length = 256 := by have := hF.out.1; omega
          have HLEN := Lib.hid (fun W (h : NetIs W w.heap.size (w.heap.size + 1) m qs' []) => lenq W _ _ _ _ _ h)
          rw [h256] at HLEN
          have HREL : Hid (qs'.length = min 256 (qs.length + (k + 1))) := by have := hlen.out; show qs'.length = _; omega
          clear hE hQ hfull h256 hmay
          go_wp2_with fail
          refine (HLEN.out _ hN.out).mono ?_; rintro e w4 ⟨rfl, rfl⟩
          go_wp2_with fail
          refine HC.out.mono ?_; rintro e w4 ⟨rfl, hn4, hb4⟩
          have HN4 := Lib.hid hn4
          have HB4 := Lib.hid (hB.out.trans hb4)
          clear hn4 hb4 HC
          go_wp2_with fail
          refine (HLEN.out _ HN4.out).mono ?_; rintro e w5 ⟨rfl, rfl⟩
          go_wp2_with fail
          go_roundw
          case rel => exact ⟨k + 1, qs', by omega, by go_num, HREL, hF, HN4, HB4⟩
          case measure => simp [intOf]; omega
        · have hE : sendE m qs' [] 1 1 n = 0 := by rw [sendE, if_neg (not_not_intro hmay), if_neg (by simp), if_neg hfull]
          obtain ⟨qn, hqn⟩ : ∃ qn, qn = sendQ m qs' [] 1 1 cs := ⟨_, rfl⟩
          have hQ : qn.length = qs'.length + 1 := by rw [hqn, sendQ, hcl, if_neg (not_not_intro hmay), if_neg (by simp), if_neg hfull]; simp
          have hF4 := Lib.hid (hqn ▸ hF.out.send (nodes := m) [] 1 1 cs)
          rw [hE, ← hqn] at HC
          have HLEN := Lib.hid (lenq wr _ _ _ _ _ hN.out)
          have HLEN2 := Lib.hid (fun W (h : NetIs W w.heap.size (w.heap.size + 1) m qn []) => lenq W _ _ _ _ _ h)
          have HREL : Hid (qn.length = min 256 (qs.length + (k + 1))) := by have := hlen.out; show qn.length = _; omega
          have HQ := Lib.hid hQ
          rw [hQ] at HLEN2
          obtain ⟨c, hc⟩ : ∃ c, c = qs'.length := ⟨_, rfl⟩
          have hc2 : (((c : Nat) : Int) == 256) = false := by simp; omega
          have hc3 : ¬ (c : Int) = 256 := by omega
          have hc4 : wrap64 ((c : Int) + 1) = (c : Int) + 1 := by unfold wrap64; omega
          have hc5 : (((c + 1 : Nat) : Int) != wrap64 ((c : Int) + 1)) = false := by rw [hc4]; simp
          rw [← hc] at HLEN HLEN2
          clear hE hQ hfull hmay hqn hc
          go_wp2_with fail
          refine HLEN.out.mono ?_; rintro e w4 ⟨rfl, rfl⟩
          go_wp2_with fail
          refine HC.out.mono ?_; rintro e w4 ⟨rfl, hn4, hb4⟩
          have HN4 := Lib.hid hn4
          have HB4 := Lib.hid (hB.out.trans hb4)
          clear hn4 hb4 HC
          go_wp2_with fail
          refine (HLEN2.out _ HN4.out).mono ?_; rintro e w5 ⟨rfl, rfl⟩
          go_wp2_with fail
          go_roundw
          case rel => exact ⟨k + 1, qn, by omega, by go_num, HREL, hF4, HN4, HB4⟩
          case measure => simp [intOf]; omega
      · have h256 : qs'.length = 256 := by have := hlen.out; omega
        have HLEN := Lib.hid (lenq wr _ _ _ _ _ hN.out)
        have HD := Lib.hid (doubleq wr _ _ _ _ _ 0 hN.out hF.out hB.out.size)
        have e1 : dblE qs' 0 = 3 := by rw [dblE, if_neg (not_not_intro ⟨by omega, by omega⟩), if_pos (by omega)]
        have e2 : dblQ qs' 0 = qs' := by rw [dblQ, if_neg (not_not_intro ⟨by omega, by omega⟩), if_pos (by omega)]
        have e3 : takeE qs' 3 = 0 := by rw [takeE, if_pos ⟨by omega, by omega⟩]
        have e4 : (takeQ qs' 3).length = 255 := by rw [takeQ, if_pos ⟨by omega, by omega⟩, List.length_eraseIdx_of_lt (by show 3 < _; omega)]; omega
        have e5 : dblE (takeQ qs' 3) 0 = 0 := by rw [dblE, if_neg (not_not_intro ⟨by omega, by omega⟩), if_neg (by omega)]
        rw [e1, e2] at HD
        rw [h256] at HLEN
        have E3 := Lib.hid e3
        have E5 := Lib.hid e5
        clear e1 e2 e3 e4 e5 h256
        go_wp2_with fail
        refine HLEN.out.mono ?_; rintro e w4 ⟨rfl, rfl⟩
        go_wp2_with fail
        refine HD.out.mono ?_; rintro e w4 ⟨rfl, hn4, hb4⟩
        have HN4 := Lib.hid hn4
        have HB4 := Lib.hid (hB.out.trans hb4)
        clear hn4 hb4 HD
        go_wp2_with fail
        refine (dropq _ _ _ _ _ _ 3 HN4.out HB4.out.size).mono ?_; rw [E3.out]; rintro e w5 ⟨rfl, hn5, hb5⟩
        have HN5 := Lib.hid hn5
        have HB5 := Lib.hid (HB4.out.trans hb5)
        clear hn5 hb5
        go_wp2_with fail
        refine (doubleq _ _ _ _ _ _ 0 HN5.out (hF.out.take 3) HB5.out.size).mono ?_; rw [E5.out]; rintro e w6 ⟨rfl, hn6, hb6⟩
        have HB6 := Lib.hid (HB5.out.trans hb6)
        clear hn6 hb6
        go_wp2_with fail
        go_ret
        exact ⟨rfl, HB6.out⟩
  · obtain ⟨cs, hcs⟩ : ∃ cs, cs = bs.take 16384 := ⟨_, rfl⟩
    have hcl : cs.length = 16384 := by rw [hcs, List.length_take]; omega
    have hn2 : ad = none → cs.length = 0 ∧ kc = 0 := fun h => by have := (hn h).1; omega
    have HLc := Lib.hid (fun W (h : Below w.heap.size w W) => (show Lie W ad (bcells cs) by rw [hcs]; exact lie_take (HL.out W h) 16384))
    have hnn : 16384 ≤ 16384 := Nat.le_refl _
    have ht : decide ((16384 : Int) < bs.length) = true := decide_eq_true (by omega)
    have ht2 : (16384 : Int) < bs.length := by omega
    have ht3 : 16384 ≤ kc := by omega
    clear hcs HL hlong hn hbc
    go_enter Try.func4, Try.ntmps4
    go_wp2_with fail
    refine HRan.out.mono ?_; rintro e w1 ⟨rfl, hn1, hb1⟩
    have HN1 := Lib.hid hn1
    have HB1 := Lib.hid hb1
    clear hn1 hb1 HRan
    go_wp2_with fail
    refine (awake_ok w1).mono ?_; rintro e w2 ⟨rfl, hb2⟩
    have HN2 := Lib.hid (HN1.out.below hb2)
    have HB2 := Lib.hid (below_step HB1.out hb2)
    clear hb2
    go_wp2_with fail
    refine (healq w2 _ _ _ _ _ HN2.out HB2.out.size).mono ?_; rintro e w3 ⟨rfl, hn3, hb3⟩
    have HN3 := Lib.hid hn3
    have HB3 := Lib.hid (HB2.out.trans hb3)
    clear hn3 hb3 HN1 HB1 HN2 HB2
    go_wp2_with fail
    go_loopw [8] (fun i wr => ∃ (k : Nat) (qs' : List Q), k ≤ 259 ∧ i = .int .i64 k ∧ Hid (qs'.length = min 256 (qs.length + k)) ∧ Hid (Fit qs') ∧ Hid (NetIs wr w.heap.size (w.heap.size + 1) m qs' []) ∧ Hid (Below w.heap.size w wr)) (fun i _ => 259 - (intOf i).toNat)
    case atStart => exact ⟨0, qs, by omega, rfl, (by have := HFit.out.1; show qs.length = _; omega), HFit, HN3, HB3⟩
    case round =>
      obtain ⟨k, qs', hk, rfl, hlen, hF, hN, hB⟩ := hrel
      by_cases hlt : k < 259
      · have HC := Lib.hid (sendq wr _ _ _ _ _ 1 1 ad cs kc hN.out hB.out.size hn2 (HLc.out wr hB.out))
        rw [hcl] at HC
        have hmay := may11 hm1 hnn
        by_cases hfull : 256 ≤ qs'.length
        · have hE : sendE m qs' [] 1 1 16384 = 3 := by rw [sendE, if_neg (not_not_intro hmay), if_neg (by simp), if_pos hfull]
          have hQ : sendQ m qs' [] 1 1 cs = qs' := by rw [sendQ, hcl, if_neg (not_not_intro hmay), if_neg (by simp), if_pos hfull]
          rw [hE, hQ] at HC
          have h256 : qs'.length = 256 := by have := hF.out.1; omega
          have HLEN := Lib.hid (fun W (h : NetIs W w.heap.size (w.heap.size + 1) m qs' []) => lenq W _ _ _ _ _ h)
          rw [h256] at HLEN
          have HREL : Hid (qs'.length = min 256 (qs.length + (k + 1))) := by have := hlen.out; show qs'.length = _; omega
          clear hE hQ hfull h256 hmay
          go_wp2_with fail
          refine (HLEN.out _ hN.out).mono ?_; rintro e w4 ⟨rfl, rfl⟩
          go_wp2_with fail
          refine HC.out.mono ?_; rintro e w4 ⟨rfl, hn4, hb4⟩
          have HN4 := Lib.hid hn4
          have HB4 := Lib.hid (hB.out.trans hb4)
          clear hn4 hb4 HC
          go_wp2_with fail
          refine (HLEN.out _ HN4.out).mono ?_; rintro e w5 ⟨rfl, rfl⟩
          go_wp2_with fail
          go_roundw
          case rel => exact ⟨k + 1, qs', by omega, by go_num, HREL, hF, HN4, HB4⟩
          case measure => simp [intOf]; omega
        · have hE : sendE m qs' [] 1 1 16384 = 0 := by rw [sendE, if_neg (not_not_intro hmay), if_neg (by simp), if_neg hfull]
          obtain ⟨qn, hqn⟩ : ∃ qn, qn = sendQ m qs' [] 1 1 cs := ⟨_, rfl⟩
          have hQ : qn.length = qs'.length + 1 := by rw [hqn, sendQ, hcl, if_neg (not_not_intro hmay), if_neg (by simp), if_neg hfull]; simp
          have hF4 := Lib.hid (hqn ▸ hF.out.send (nodes := m) [] 1 1 cs)
          rw [hE, ← hqn] at HC
          have HLEN := Lib.hid (lenq wr _ _ _ _ _ hN.out)
          have HLEN2 := Lib.hid (fun W (h : NetIs W w.heap.size (w.heap.size + 1) m qn []) => lenq W _ _ _ _ _ h)
          have HREL : Hid (qn.length = min 256 (qs.length + (k + 1))) := by have := hlen.out; show qn.length = _; omega
          have HQ := Lib.hid hQ
          rw [hQ] at HLEN2
          obtain ⟨c, hc⟩ : ∃ c, c = qs'.length := ⟨_, rfl⟩
          have hc2 : (((c : Nat) : Int) == 256) = false := by simp; omega
          have hc3 : ¬ (c : Int) = 256 := by omega
          have hc4 : wrap64 ((c : Int) + 1) = (c : Int) + 1 := by unfold wrap64; omega
          have hc5 : (((c + 1 : Nat) : Int) != wrap64 ((c : Int) + 1)) = false := by rw [hc4]; simp
          rw [← hc] at HLEN HLEN2
          clear hE hQ hfull hmay hqn hc
          go_wp2_with fail
          refine HLEN.out.mono ?_; rintro e w4 ⟨rfl, rfl⟩
          go_wp2_with fail
          refine HC.out.mono ?_; rintro e w4 ⟨rfl, hn4, hb4⟩
          have HN4 := Lib.hid hn4
          have HB4 := Lib.hid (hB.out.trans hb4)
          clear hn4 hb4 HC
          go_wp2_with fail
          refine (HLEN2.out _ HN4.out).mono ?_; rintro e w5 ⟨rfl, rfl⟩
          go_wp2_with fail
          go_roundw
          case rel => exact ⟨k + 1, qn, by omega, by go_num, HREL, hF4, HN4, HB4⟩
          case measure => simp [intOf]; omega
      · have h256 : qs'.length = 256 := by have := hlen.out; omega
        have HLEN := Lib.hid (lenq wr _ _ _ _ _ hN.out)
        have HD := Lib.hid (doubleq wr _ _ _ _ _ 0 hN.out hF.out hB.out.size)
        have e1 : dblE qs' 0 = 3 := by rw [dblE, if_neg (not_not_intro ⟨by omega, by omega⟩), if_pos (by omega)]
        have e2 : dblQ qs' 0 = qs' := by rw [dblQ, if_neg (not_not_intro ⟨by omega, by omega⟩), if_pos (by omega)]
        have e3 : takeE qs' 3 = 0 := by rw [takeE, if_pos ⟨by omega, by omega⟩]
        have e4 : (takeQ qs' 3).length = 255 := by rw [takeQ, if_pos ⟨by omega, by omega⟩, List.length_eraseIdx_of_lt (by show 3 < _; omega)]; omega
        have e5 : dblE (takeQ qs' 3) 0 = 0 := by rw [dblE, if_neg (not_not_intro ⟨by omega, by omega⟩), if_neg (by omega)]
        rw [e1, e2] at HD
        rw [h256] at HLEN
        have E3 := Lib.hid e3
        have E5 := Lib.hid e5
        clear e1 e2 e3 e4 e5 h256
        go_wp2_with fail
        refine HLEN.out.mono ?_; rintro e w4 ⟨rfl, rfl⟩
        go_wp2_with fail
        refine HD.out.mono ?_; rintro e w4 ⟨rfl, hn4, hb4⟩
        have HN4 := Lib.hid hn4
        have HB4 := Lib.hid (hB.out.trans hb4)
        clear hn4 hb4 HD
        go_wp2_with fail
        refine (dropq _ _ _ _ _ _ 3 HN4.out HB4.out.size).mono ?_; rw [E3.out]; rintro e w5 ⟨rfl, hn5, hb5⟩
        have HN5 := Lib.hid hn5
        have HB5 := Lib.hid (HB4.out.trans hb5)
        clear hn5 hb5
        go_wp2_with fail
        refine (doubleq _ _ _ _ _ _ 0 HN5.out (hF.out.take 3) HB5.out.size).mono ?_; rw [E5.out]; rintro e w6 ⟨rfl, hn6, hb6⟩
        have HB6 := Lib.hid (HB5.out.trans hb6)
        clear hn6 hb6
        go_wp2_with fail
        go_ret
        exact ⟨rfl, HB6.out⟩

theorem lawWalk {H : Type} (enc : TypeId × Value → H) : LawWalk enc Try.prog 4 Try.f4 (fun _ => True) := by
  intro W base args ds p hval hA hsz _
  rw [Try.params4] at hA hval
  obtain ⟨v0, vs0, d0, ds0, p0, q0, hargs, rfl, rfl, h0, r0⟩ := trodAll_cons hA
  obtain ⟨v1, vs1, d1, ds1, p1, q1, rfl, rfl, rfl, h1, r1⟩ := trodAll_cons r0
  obtain ⟨v2, vs2, d2, ds2, p2, q2, rfl, rfl, rfl, h2, r2⟩ := trodAll_cons r1
  obtain ⟨rfl, rfl, rfl⟩ := trodAll_nil r2
  obtain rfl : args = #[v0, v1, v2] := by cases args; simp_all
  obtain ⟨n0, rfl, rfl, rfl, w0⟩ := open_int Try.underlying3 (hval 0 3 v0 rfl rfl) h0
  obtain ⟨a, l, cap, es, sp, rfl, hlc, hcm, hn, hat, hd, hel, hsp, hgood⟩ := open_slice_gen 4 ocells (fun o _ => GoodO W o) Try.underlying22 (by kernel_rfl) (by omega) (fun n cs y _ h => elem_op n cs y h) (hval 1 22 v1 rfl rfl) h1
  obtain ⟨ad, bz, kc, rfl, hb1, hb2, hb3, hb4, hwf, _⟩ := open_slice_int Try.underlying23 Try.underlying5 (by kernel_rfl) (hval 2 23 v2 rfl rfl) h2
  obtain ⟨bs, rfl, hbs⟩ := nat_list bz (byte_wf hwf)
  rw [bcells_of] at hb4
  simp only [List.length_map] at *
  exact full_ok W n0 a l cap ad bs kc (by unfold maxLen at hcm; omega) hat (fun k hk => hgood k hk (by omega)) hb3 hb4 hb1 hb2

theorem own : ownKnob Try.prog.godebug = none := by kernel_rfl
theorem laidOut : laidOutB Try.prog = true := by kernel_rfl

set_option maxRecDepth 100000 in
theorem lifted (os : Os) (started : os.Started) (H : Type) (enc : TypeId × Value → H) :
    ReturnsInHanded {} Try.checked os 4 .any (Rows.netFullSpec.pre6 enc Try.prog Try.f4 Rows.netFullRow.domain false) (Rows.netFullSpec.post enc Try.prog Try.f4 false true false false) := by
  refine returnsInHanded_of_change_sized (C := Try.checked) own started (by kernel_rfl) Try.func4
    (ChangeSpec.witness6 (enc := enc) (C := Try.checked) false ⟨#[], #[.int .i64 0, .slice none 0 0, .slice none 0 0], []⟩ 8 (by kernel_rfl) (by kernel_rfl) (by kernel_rfl) (by kernel_rfl)) ?_
  intro W base args ds gs before hval hW hcnd hsz _
  exact law_post (C := Try.checked) laidOut (fun ds h => by match ds, h with | [_, _, _], _ => rfl) 4 rfl Try.underlying4 rfl (by kernel_rfl) hval hW hsz trivial (lawWalk enc)

theorem proved : Rows.NetFullSaid :=
  OpenClaim.holds_of_wide 4 Try.f4 rfl rfl rfl rfl rfl rfl rfl ⟨rfl, rfl, rfl, rfl, rfl⟩ rfl rfl rfl rfl rfl (by kernel_rfl) Try.func4 (by kernel_rfl)
    (of_decide_eq_true (by kernel_rfl)) (by unfold Func.isWrapper; first | (rw [if_pos (by decide +kernel)]; kernel_rfl) | (rw [if_neg (by decide +kernel)]; exact ⟨rfl, rfl⟩))
    (fun os started H enc _ => lifted os started H enc)
#print axioms proved
end Go.Proofs.Ytnnfagdhigodbaa.netFull
