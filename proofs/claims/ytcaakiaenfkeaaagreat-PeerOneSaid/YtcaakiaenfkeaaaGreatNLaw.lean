/-
  PeerOne: a group of one: who draws leads at once, and what it proposes is chosen at once; so it is behind a fall.
-/
import Derived.Test.YtcaakiaenfkeaaaGreatN27
import Derived.Test.YtcaakiaenfkeaaaGreatChecked
import Derived.Test.YtcaakiaenfkeaaaGreatRows
import Derived.Deep.CutBlock
import Derived.Deep.RegionHeld3
namespace Go.Proofs.YtcaakiaenfkeaaaGreat.peerOne
open Go.ChangeShapes Go.WideShapes Go.ChangeAt Go.RowKit
open Go.Proofs.YtcaakiaenfkeaaaGreat.kit Go.Proofs.YtcaakiaenfkeaaaGreat.mapkit Go.Proofs.YtcaakiaenfkeaaaGreat.byt Go.Proofs.YtcaakiaenfkeaaaGreat.own Go.Proofs.YtcaakiaenfkeaaaGreat.accd Go.Proofs.YtcaakiaenfkeaaaGreat.accb Go.Proofs.YtcaakiaenfkeaaaGreat.acce Go.Proofs.YtcaakiaenfkeaaaGreat.chd Go.Proofs.YtcaakiaenfkeaaaGreat.che Go.Proofs.YtcaakiaenfkeaaaGreat.ownr Go.Proofs.YtcaakiaenfkeaaaGreat.pep Go.Proofs.YtcaakiaenfkeaaaGreat.peb Go.Proofs.YtcaakiaenfkeaaaGreat.pem Go.Proofs.YtcaakiaenfkeaaaGreat.pen Go.Proofs.YtcaakiaenfkeaaaGreat.pes Go.Proofs.YtcaakiaenfkeaaaGreat.peq Go.Proofs.YtcaakiaenfkeaaaGreat.pelo Go.Proofs.YtcaakiaenfkeaaaGreat.penw Go.Proofs.YtcaakiaenfkeaaaGreat.pese Go.Proofs.YtcaakiaenfkeaaaGreat.pesv Go.Proofs.YtcaakiaenfkeaaaGreat.peaw Go.Proofs.YtcaakiaenfkeaaaGreat.peod Go.Proofs.YtcaakiaenfkeaaaGreat.peos
set_option linter.unusedVariables false
set_option linter.unusedSimpArgs false
set_option maxHeartbeats 20000000
set_option maxRecDepth 100000

theorem val_cell {w : World} {a : Option Addr} {L : List (Sl Nat)} (h : RowsAt w a 1 (L.map fun b => [b.val])) (k : Nat) (hk : k < L.length) : ∃ g off, a = some ⟨g, off, none⟩ ∧ g < w.heap.size ∧ w.cell? ⟨g, off + k, none⟩ = some (.slice L[k].a L[k].l.length L[k].c) := by
  rcases h with e | ⟨b, off, e, hz, h3⟩
  · have : L = [] := by simpa using e
    rw [this] at hk; simp at hk
  · have hi : k < (L.map fun b => [b.val]).length := by simpa using hk
    have e0 := h3 k hi 0 (by omega)
    simp only [List.getElem_map, Nat.add_zero, Nat.mul_one] at e0
    exact ⟨b, off, e, hz, e0.trans rfl⟩

/-- Bytes that can be read, of whatever length. -/
structure RdA (w : World) (s : Sl Nat) : Prop where
  nil : s.a = none → s.l.length = 0 ∧ s.c = 0
  byt : Byt s.l
  lie : Lie w s.a (bcells s.l)
theorem RdA.rd {W w : World} {s : Sl Nat} (h : RdA W s) (hb : Below W.heap.size W w) (hl : s.l.length ≤ 2048) : RdB w s := ⟨h.nil, by omega, h.byt, h.lie.below hb⟩
theorem wrap_next {m N c : Nat} (h : m < N) (hN : N = c) (hc : c ≤ 100 := by decide) : wrap64 ((m : Int) + 1) = ((m + 1 : Nat) : Int) := by rw [IntWalk.wrap64_in _ (by omega)]; omega
theorem wrap_n1 {n : Nat} (h : n ≤ 1000) : wrap64 ((n : Int) + 1) = (n : Int) + 1 := IntWalk.wrap64_in _ (by omega)
theorem sameB_self (l : List Nat) : byt.sameB l l = true := by unfold byt.sameB; simp
theorem small_of {a b : List Nat} (h : a = b) (h2 : ¬ 2048 < b.length) : a.length ≤ 9223372036854775807 := by rw [h]; omega
theorem next_less {m N c : Nat} (h : m < N) (hN : N = c) (hc : c ≤ 100 := by decide) : N - (intOf (.int .i64 (wrap64 ((m : Int) + 1)))).toNat < N - (intOf (.int .i64 (m : Int))).toNat := by
  rw [wrap_next h hN hc]
  show N - ((m + 1 : Nat) : Int).toNat < N - (m : Int).toNat
  omega

theorem dec_lt {m n : Nat} (h : m < n) : decide ((m : Int) < (n : Int)) = true := decide_eq_true (by omega)
theorem dec_ge {m n : Nat} (h : ¬ m < n) : decide ((m : Int) < (n : Int)) = false := decide_eq_false (by omega)
/-- Behind the notes of a value: what the law's test reads, and what its calls answer. -/
theorem exit_s {W w : World} {pb sb n k m rb g off : Nat} {b : Sl Nat} {N : Sl NtM} {la : Option Addr} {lc : Nat} {C : Sl Et} {ri : Int} {xa : Option Addr} {xl xc : Nat} (h : InvP W w pb sb n (k + 1) b.l N C m) (hx : BoxR w rb N la lc C ri xa xl xc) (hm : m ≤ N.l.length) (hnlt : ¬ m < N.l.length) (hn : n ≤ 500) (h2 : b.l.length ≤ 2048)
    (hbk : ∀ wx : World, Below W.heap.size W wx → (g < wx.heap.size ∧ wx.cell? ⟨g, off + k, none⟩ = some (.slice b.a b.l.length b.c)) ∧ (b.l.length ≤ 2048 → RdB wx b)) :
    ∃ (g3 off3 : Nat) (ba : Option Addr) (bc cc : Nat), (∀ wx wy : World, Below wx.heap.size wx wy → (wx.cell? ⟨rb, 2, none⟩ = some (.slice (some ⟨g3, off3, none⟩) 1 cc) ∧ wx.cell? ⟨g3, off3, none⟩ = some (.int .i64 ((n : Int) + 1)) ∧ wx.cell? ⟨g3, off3 + 1, none⟩ = some (.slice ba b.l.length bc) ∧ wx.cell? ⟨g, off + k, none⟩ = some (.slice b.a b.l.length b.c) ∧ Below w.heap.size w wx) → (wy.cell? ⟨rb, 2, none⟩ = some (.slice (some ⟨g3, off3, none⟩) 1 cc) ∧ wy.cell? ⟨g3, off3, none⟩ = some (.int .i64 ((n : Int) + 1)) ∧ wy.cell? ⟨g3, off3 + 1, none⟩ = some (.slice ba b.l.length bc) ∧ wy.cell? ⟨g, off + k, none⟩ = some (.slice b.a b.l.length b.c) ∧ Below w.heap.size w wy)) ∧ (w.drew.cell? ⟨rb, 2, none⟩ = some (.slice (some ⟨g3, off3, none⟩) 1 cc) ∧ w.drew.cell? ⟨g3, off3, none⟩ = some (.int .i64 ((n : Int) + 1)) ∧ w.drew.cell? ⟨g3, off3 + 1, none⟩ = some (.slice ba b.l.length bc) ∧ w.drew.cell? ⟨g, off + k, none⟩ = some (.slice b.a b.l.length b.c) ∧ Below w.heap.size w w.drew) ∧
      (∀ wz : World, (wz.cell? ⟨rb, 2, none⟩ = some (.slice (some ⟨g3, off3, none⟩) 1 cc) ∧ wz.cell? ⟨g3, off3, none⟩ = some (.int .i64 ((n : Int) + 1)) ∧ wz.cell? ⟨g3, off3 + 1, none⟩ = some (.slice ba b.l.length bc) ∧ wz.cell? ⟨g, off + k, none⟩ = some (.slice b.a b.l.length b.c) ∧ Below w.heap.size w wz) → Calls Tryz.prog 11 #[.slice ba b.l.length bc, .slice b.a b.l.length b.c] wz fun e w' => e = .returned (.bool true) ∧ Below wz.heap.size wz w') ∧
      (∀ wz : World, (wz.cell? ⟨rb, 2, none⟩ = some (.slice (some ⟨g3, off3, none⟩) 1 cc) ∧ wz.cell? ⟨g3, off3, none⟩ = some (.int .i64 ((n : Int) + 1)) ∧ wz.cell? ⟨g3, off3 + 1, none⟩ = some (.slice ba b.l.length bc) ∧ wz.cell? ⟨g, off + k, none⟩ = some (.slice b.a b.l.length b.c) ∧ Below w.heap.size w wz) → Calls Tryz.prog 12 #[.pointer (some ⟨pb, 0, none⟩)] wz fun e w' => e = .returned (.int .i64 ((n : Int) + 1)) ∧ Below wz.heap.size wz w') ∧
      InvB W w pb sb (n + 1) (k + 1) true ∧ wrap64 ((n : Int) + 1) = (n : Int) + 1 ∧ N.l.length = m ∧ w.cell? ⟨rb, 0, none⟩ = some (.slice N.a N.l.length N.c) ∧ rb < w.heap.size := by
  have hln := h.len.1
  have hm2 : m = 2 := by omega
  subst hm2
  have hdn : InvB W w pb sb (n + 1) (k + 1) true := h.done
  obtain ⟨x0, x1, x2, hz⟩ := hx.cells
  obtain ⟨g3, off3, bb, hca, hcl, hg3, z0, z1, hbl, hrd⟩ := h.chosen
  rw [hca, hcl] at x2
  obtain ⟨⟨hgz3, x3⟩, hr3⟩ := hbk w hdn.from
  have hr3 := hr3 h2
  have hd : Below w.heap.size w w.drew := below_drewN (Below.refl _ _) 1
  rw [hbl] at z1
  refine ⟨g3, off3, bb.a, bb.c, C.c, ?_, ⟨x2, z0, z1, x3, hd⟩, ?_, ?_, hdn, wrap_n1 (by omega), hln, x0, hz⟩
  · rintro wx wy kk ⟨s0, s1, s2, s3, s4⟩
    exact ⟨cell_step s0 kk, cell_step s1 kk, cell_step s2 kk, cell_step s3 kk, below_step s4 kk⟩
  · rintro wz ⟨-, -, -, -, s4⟩
    have h := bytes_any bb.l b.l bb.a b.a bb.c b.c wz (by rw [hbl]; omega) (hrd.lie.below s4) (hr3.lie.below s4)
    rw [hbl, sameB_self] at h
    exact h
  · rintro wz ⟨-, -, -, -, s4⟩
    have h := commit_inv (hdn.fr s4) (by omega)
    rw [show ((n + 1 : Nat) : Int) = (n : Int) + 1 by omega] at h
    exact h

/-- What a fall finds: the struct that was saved. -/
theorem fall_s {W w : World} {pb sb n : Nat} {B : Int} {l : Bool} (h : InvB W w pb sb n B l) (hn : n ≤ 1000) :
    ∃ S : SvM, (w.cell? ⟨sb, 0, none⟩ = some (.int .i64 S.p1) ∧ w.cell? ⟨sb, 1, none⟩ = some (.int .i64 S.p2) ∧ w.cell? ⟨sb, 2, none⟩ = some (.slice S.vs.a S.vs.l.length S.vs.c) ∧ w.cell? ⟨sb, 3, none⟩ = some (.int .i64 S.ix) ∧ w.cell? ⟨sb, 4, none⟩ = some (.slice S.im.a S.im.l.length S.im.c) ∧ w.cell? ⟨sb, 5, none⟩ = some (.slice S.en.a S.en.l.length S.en.c)) ∧
    Calls Tryz.prog 4 #[.int .i64 1, .int .i64 1, .agg #[.int .i64 S.p1, .int .i64 S.p2, .slice S.vs.a S.vs.l.length S.vs.c, .int .i64 S.ix, .slice S.im.a S.im.l.length S.im.c, .slice S.en.a S.en.l.length S.en.c]] w fun e w' => ∃ pb', e = .returned (.tuple #[.pointer (some ⟨pb', 0, none⟩), .int .i64 0]) ∧ InvN W w' pb' sb n B := by
  obtain ⟨S, hb, hc⟩ := new_inv h hn
  have hk := (kit.blk hb).1
  exact ⟨S, ⟨hk 0, hk 1, hk 2, hk 3, hk 4, hk 5⟩, hc⟩
theorem n_commit {W w : World} {pb sb n : Nat} {B : Int} (h : InvN W w pb sb (n + 1) B) (hn : n + 1 ≤ 1000) : Calls Tryz.prog 12 #[.pointer (some ⟨pb, 0, none⟩)] w fun e w' => e = .returned (.int .i64 ((n : Int) + 1)) ∧ Below w.heap.size w w' := by
  have h := h.commit hn
  rw [show ((n + 1 : Nat) : Int) = (n : Int) + 1 by omega] at h
  exact h
theorem n_ready {W w : World} {pb sb n : Nat} {B : Int} (h : InvN W w pb sb (n + 1) B) :
    Calls Tryz.prog 9 #[.pointer (some ⟨pb, 0, none⟩)] w fun e w' => ∃ (na : Option Addr) (nl nc : Nat) (la : Option Addr) (lc : Nat) (ca : Option Addr) (cl cc : Nat) (ri : Int) (xa : Option Addr) (xl xc : Nat), e = .returned (.agg #[.slice na nl nc, .slice la 0 lc, .slice ca cl cc, .int .i64 ri, .slice xa xl xc]) ∧ (cl : Int) = (n : Int) + 1 ∧ Inv W w' pb sb (n + 1) B := by
  refine h.ready.mono ?_
  rintro e w' ⟨N, la, lc, C, ri, xa, xl, xc, rfl, hc, hi⟩
  exact ⟨N.a, N.l.length, N.c, la, lc, C.a, C.l.length, C.c, ri, xa, xl, xc, rfl, by rw [hc]; omega, hi⟩
theorem inv_fr {W w w' : World} {pb sb n : Nat} {B : Int} (h : Inv W w pb sb n B) (hb : Below w.heap.size w w') : Inv W w' pb sb n B := by
  obtain ⟨l, h⟩ := h
  exact ⟨l, h.fr hb⟩
theorem cast1 {n k : Nat} {W w : World} {pb sb : Nat} (h : Inv W w pb sb n ((k : Int) + 1)) : Inv W w pb sb n ((k + 1 : Nat) : Int) := by
  rw [show ((k + 1 : Nat) : Int) = (k : Int) + 1 by omega]
  exact h
theorem castv (n : Nat) : (Value.int .i64 ((n : Int) + 1)) = Value.int .i64 ((n + 1 : Nat) : Int) := by rw [show ((n + 1 : Nat) : Int) = (n : Int) + 1 by omega]

theorem less40 {k : Nat} (h : k < 40) : 40 - (intOf (.int .i64 ((k : Int) + 1))).toNat < 40 - (intOf (.int .i64 (k : Int))).toNat := by
  show 40 - ((k : Int) + 1).toNat < 40 - (k : Int).toNat
  omega
theorem ne_of {n cl : Nat} (h : (cl : Int) = (n : Int) + 1) : ((cl : Int) != (n : Int) + 1) = false := by rw [h]; simp
theorem box_in {W w15 w16 : World} {pb sb n rb : Nat} {B : Int} {u0 u1 u2 u3 u4 : Value} (hw : w16 = w15.alloc (.cells #[u0, u1, u2, u3, u4] 40)) (hr : rb = w15.heap.size) (h : Inv W w15 pb sb n B) : w16.cell? ⟨rb, 2, none⟩ = some u2 ∧ rb < w16.heap.size ∧ Hid (Inv W w16 pb sb n B) := by
  subst hw hr
  have hn := hp_alloc_new w15 (.cells #[u0, u1, u2, u3, u4] 40)
  exact ⟨(kit.blk hn).1 2, (kit.blk hn).2.2, inv_fr h (below_new1 _ _)⟩

theorem one_ok (W : World) (a : Option Addr) (L : List (Sl Nat)) (cap : Nat) (f : Int) (hl : L.length ≤ 9223372036854775807) (hrow : RowsAt W a 1 (L.map fun b => [b.val])) (hgood : ∀ b ∈ L, RdA W b) :
    Calls Tryz.prog 3 #[.slice a L.length cap, .int .i64 f] W fun e w' => e = .returned (.bool true) ∧ Below W.heap.size W w' := by
  have hcl : ownr.Clean W (fun _ => ro) := fun _ _ => rfl
  have HNW := Lib.hid (new_ok W (fun _ => ro) 1 1 1 S0 hcl fresh1 (rdS0 W) (okS0 (.inl rfl) (by decide)) rfl)
  simp only [SvM.val, S0, sl0, List.length_nil] at HNW
  have HV : Hid (∀ wr : World, Below W.heap.size W wr → ∀ k (hk : k < L.length), (∃ g off, a = some ⟨g, off, none⟩ ∧ g < wr.heap.size ∧ wr.cell? ⟨g, off + k, none⟩ = some (.slice L[k].a L[k].l.length L[k].c)) ∧ (L[k].l.length ≤ 2048 → RdB wr L[k])) := fun wr hb k hk => ⟨val_cell (hrow.below hb) k hk, (hgood _ (List.getElem_mem hk)).rd hb⟩
  clear hcl hrow hgood
  go_enter Tryz.func3, Tryz.ntmps3
  go_upto_region 2 with (go_at_call 4; refine HNW.out.mono ?_; rintro e w1 ⟨pb, M1, O1, rfl, hP1, hF1, hM1, -⟩; have HP1 := Lib.hid hP1; have HF1 := Lib.hid hF1; have HM1 := Lib.hid hM1; have HAW := Lib.hid (awake_ok w1); clear hP1 hF1 hM1)
  go_upto_region 4 with (go_at_call 5; refine HAW.out.mono ?_; rintro e w2 ⟨rfl, hb2⟩; have HI := Lib.hid (start_inv (PeerAt.below HP1.out hb2) (HF1.out.trans (Fr.of_below HP1.out.clean hb2)) HM1.out); simp only [SvM.cells, S0, sl0, List.length_nil] at HI; clear hb2 HAW HP1 HF1 HM1 HNW)
  obtain ⟨sb, hsb⟩ : ∃ sb, sb = w2.heap.size := ⟨_, rfl⟩
  rw [← hsb] at HI
  have HSB := Lib.hid hsb
  clear hsb
  go_upto_region 5 with fail
  rw [← HSB.out]
  go_wp2_with fail
  go_loopw [5, 8, 9] (fun p nn i wr => ∃ (k n pb : Nat), k ≤ L.length ∧ k ≤ 40 ∧ n ≤ k ∧ i = .int .i64 k ∧ nn = .int .i64 n ∧ p = .pointer (some ⟨pb, 0, none⟩) ∧ Hid (Inv W wr pb sb n k)) (fun _ _ i _ => 40 - (intOf i).toNat)
  case atStart => exact ⟨0, 0, pb, Nat.zero_le _, by decide, Nat.le_refl _, rfl, rfl, rfl, HI.out⟩
  case round =>
    obtain ⟨k, n, pb, hkl, hk40, hnk, rfl, rfl, rfl, HI⟩ := hrel
    have HB : Hid (Below W.heap.size W wr) := HI.out.from
    by_cases hlt : k < L.length
    · by_cases h40 : k < 40
      · have d1 : decide ((k : Int) < (L.length : Int)) = true := decide_eq_true (by omega)
        have d2 : decide ((k : Int) < 40) = true := decide_eq_true (by omega)
        obtain ⟨⟨g, off, rfl, hgz, x0⟩, hrb⟩ := HV.out wr HB.out k hlt
        obtain ⟨b, hbk⟩ : ∃ b, b = L[k] := ⟨_, rfl⟩
        rw [← hbk] at x0 hrb
        have HK := Lib.hid hbk
        clear hbk
        by_cases h1 : b.l.length = 0
        · have d3 : decide ((b.l.length : Int) < 1) = true := decide_eq_true (by omega)
          go_wp2_with fail
          go_roundw
          case rel => exact ⟨k + 1, n, pb, by omega, by omega, by omega, by go_num, rfl, rfl, HI.out.mono (by omega)⟩
          case measure => simp [intOf]; omega
        by_cases h2 : 2048 < b.l.length
        · have d3 : decide ((b.l.length : Int) < 1) = false := decide_eq_false (by omega)
          have d4 : decide ((2048 : Int) < (b.l.length : Int)) = true := decide_eq_true (by omega)
          go_wp2_with fail
          go_roundw
          case rel => exact ⟨k + 1, n, pb, by omega, by omega, by omega, by go_num, rfl, rfl, HI.out.mono (by omega)⟩
          case measure => simp [intOf]; omega
        have d3 : decide ((b.l.length : Int) < 1) = false := decide_eq_false (by omega)
        have d4 : decide ((2048 : Int) < (b.l.length : Int)) = false := decide_eq_false (by omega)
        have HBK : Hid (∀ wx : World, Below W.heap.size W wx → (g < wx.heap.size ∧ wx.cell? ⟨g, off + k, none⟩ = some (.slice b.a b.l.length b.c)) ∧ (b.l.length ≤ 2048 → RdB wx b)) := by
          intro wx hb
          obtain ⟨⟨g', off', e, hz, hx⟩, hr⟩ := HV.out wx hb k hlt
          simp only [Option.some.injEq, Addr.mk.injEq, and_true] at e
          obtain ⟨rfl, rfl⟩ := e
          rw [HK.out]
          exact ⟨⟨hz, hx⟩, hr⟩
        have hn5 : n ≤ 500 := by omega
        have hn : n ≤ 1000 := by omega
        have hn2 : n + 1 ≤ 1000 := by omega
        have hb1 : 1 ≤ b.l.length := by omega
        have hb2 : b.l.length ≤ 2048 := by omega
        have hB : (0 : Int) ≤ k ∧ (k : Int) ≤ 1000 := by omega
        have hk1 : (k : Int) ≤ k + 1 := by omega
        obtain ⟨l, hib⟩ := HI.out
        have HIB := Lib.hid hib
        clear hib hrb
        have HLD := Lib.hid (leads_inv HIB.out)
        go_upto_if 58 with (go_at_call 6; refine HLD.out.mono ?_; rintro e w3 ⟨rfl, rfl⟩)
        go_cut [10, 11] from 59 to 95 (fun q1 q2 wx => Hid (InvB W wx pb sb n (k + 1) true))
        case first =>
          as_aux_lemma =>
          cases l with
          | true =>
            go_wp2_with fail
            go_meet
            case rel => exact HIB.out.mono hk1
          | false =>
            have HSD := Lib.hid (send_no HIB.out hn ((HBK.out _ HB.out).2 hb2) hb1 hb2)
            go_upto_region 13 with (first | (go_at_call 7; refine HSD.out.mono ?_; rintro e w4 ⟨rfl, hi4⟩; have HI4 := Lib.hid hi4; clear hi4) | (go_at_call 8; refine (draw_inv HI4.out hn hB).mono ?_; rintro e w5 ⟨rfl, hi5⟩; have HI5 := Lib.hid hi5; clear hi5))
            go_upto_region 14 with (go_at_call 9; refine (ready_d HI5.out hB.1).mono ?_; rintro e w6 ⟨N1, la, lc, C1, ri, xa, xl, xc, rfl, hi6⟩; have HI6 := Lib.hid hi6; clear hi6)
            obtain ⟨rb, hrb⟩ : ∃ rb, rb = w6.heap.size := ⟨_, rfl⟩
            obtain ⟨w7, hw7⟩ : ∃ w7, w7 = w6.alloc (.cells #[.slice N1.a N1.l.length N1.c, .slice la 0 lc, .slice C1.a C1.l.length C1.c, .int .i64 ri, .slice xa xl xc] 40) := ⟨_, rfl⟩
            have HI7 : Hid (InvD W w7 pb sb n (k + 1) N1 C1) := by rw [hw7]; exact HI6.out.fr (below_new1 _ _)
            have HX7 : Hid (BoxR w7 rb N1 la lc C1 ri xa xl xc) := by rw [hw7, hrb]; exact hp_alloc_new _ _
            rw [← hw7, ← hrb]
            clear hw7 hrb HI6
            go_upto_region 15 with fail
            go_loopw [11] (fun kk wq => ∃ m : Nat, m ≤ N1.l.length ∧ kk = .int .i64 m ∧ Hid (InvD W wq pb sb n (k + 1) N1 C1) ∧ Hid (BoxR wq rb N1 la lc C1 ri xa xl xc)) (fun kk _ => N1.l.length - (intOf kk).toNat)
            case atStart => exact ⟨0, Nat.zero_le _, rfl, HI7, HX7⟩
            case round =>
              obtain ⟨m, hm, rfl, HI8, HX8⟩ := hrel
              have HLN := Lib.hid HI8.out.len
              obtain ⟨x0, x1, x2, hz⟩ := HX8.out.cells
              by_cases hlt2 : m < N1.l.length
              · have e1 := dec_lt hlt2
                obtain ⟨g2, off2, hga, hgz2, hcc⟩ := HI8.out.cells m hlt2
                rw [hga] at x0
                have hpt := put_d HI8.out hn HX8.out m hlt2
                obtain ⟨x, hx⟩ : ∃ x, x = N1.l[m] := ⟨_, rfl⟩
                rw [← hx] at hcc hpt
                simp only [nval] at hpt
                have HPT := Lib.hid hpt
                obtain ⟨y0, y1, y2, y3, y4, y5, y6, y7, y8, y9, y10, y11, y12, y13, y14, y15⟩ := hcc
                clear hpt hx hga
                go_wp2_with (go_at_call 10; refine HPT.out.mono ?_; rintro e w9 ⟨rfl, hi9, hx9⟩; have HI9 := Lib.hid hi9; have HX9 := Lib.hid hx9; clear hi9 hx9)
                go_roundw
                case rel =>
                  exact ⟨m + 1, hlt2, congrArg (Value.int .i64) (wrap_next hlt2 HLN.out), HI9, HX9⟩
                case measure =>
                  exact next_less hlt2 HLN.out
              · have e1 := dec_ge hlt2
                have HLD2 := Lib.hid (leads_inv HI8.out.to)
                go_wp2_with (go_at_call 6; refine HLD2.out.mono ?_; rintro e w9 ⟨rfl, rfl⟩)
                go_meet
                case rel => exact HI8.out.to
        case rest =>
          as_aux_lemma =>
          have HBC := Lib.hid hcut.out.from
          have hx3 := HBK.out wc HBC.out
          have HSY := Lib.hid (send_yes hcut.out hn (hx3.2 hb2) hb1 hb2)
          obtain ⟨hgz3, x3⟩ := hx3.1
          clear x0 hgz hx3
          go_upto_region 22 with (go_at_call 7; refine HSY.out.mono ?_; rintro e w4 ⟨rfl, hi4⟩; have HI4 := Lib.hid hi4; clear hi4)
          go_upto_region 23 with (go_at_call 9; refine (ready_s HI4.out hb2).mono ?_; rintro e w6 ⟨N1, la, lc, C1, ri, xa, xl, xc, rfl, hi6⟩; have HI6 := Lib.hid hi6; clear hi6)
          obtain ⟨rb, hrb⟩ : ∃ rb, rb = w6.heap.size := ⟨_, rfl⟩
          obtain ⟨w7, hw7⟩ : ∃ w7, w7 = w6.alloc (.cells #[.slice N1.a N1.l.length N1.c, .slice la 0 lc, .slice C1.a C1.l.length C1.c, .int .i64 ri, .slice xa xl xc] 40) := ⟨_, rfl⟩
          have HI7 : Hid (InvP W w7 pb sb n (k + 1) b.l N1 C1 0) := by rw [hw7]; exact HI6.out.fr (below_new1 _ _)
          have HX7 : Hid (BoxR w7 rb N1 la lc C1 ri xa xl xc) := by rw [hw7, hrb]; exact hp_alloc_new _ _
          rw [← hw7, ← hrb]
          clear hw7 hrb HI6 x3 hgz3
          go_upto_region 24 with fail
          go_loopw [14] (fun kk wq => ∃ m : Nat, m ≤ N1.l.length ∧ kk = .int .i64 m ∧ Hid (InvP W wq pb sb n (k + 1) b.l N1 C1 m) ∧ Hid (BoxR wq rb N1 la lc C1 ri xa xl xc)) (fun kk _ => N1.l.length - (intOf kk).toNat)
          case atStart => exact ⟨0, Nat.zero_le _, rfl, HI7, HX7⟩
          case round =>
            obtain ⟨m, hm, rfl, HI8, HX8⟩ := hrel
            have HLN := Lib.hid HI8.out.len.1
            obtain ⟨x0, x1, x2, hz⟩ := HX8.out.cells
            by_cases hlt2 : m < N1.l.length
            · as_aux_lemma =>
              have e1 := dec_lt hlt2
              obtain ⟨g2, off2, hga, hgz2, hcc⟩ := HI8.out.cells hlt2
              rw [hga] at x0
              have hpt := put_p HI8.out hn HX8.out hlt2
              obtain ⟨x, hx⟩ : ∃ x, x = N1.l[m] := ⟨_, rfl⟩
              rw [← hx] at hcc hpt
              simp only [nval] at hpt
              have HPT := Lib.hid hpt
              obtain ⟨y0, y1, y2, y3, y4, y5, y6, y7, y8, y9, y10, y11, y12, y13, y14, y15⟩ := hcc
              clear hpt hx hga
              go_wp2_with (go_at_call 10; refine HPT.out.mono ?_; rintro e w9 ⟨rfl, hi9, hx9⟩; have HI9 := Lib.hid hi9; have HX9 := Lib.hid hx9; clear hi9 hx9)
              go_roundw
              case rel =>
                exact ⟨m + 1, hlt2, congrArg (Value.int .i64) (wrap_next hlt2 HLN.out), HI9, HX9⟩
              case measure =>
                exact next_less hlt2 HLN.out
            · as_aux_lemma =>
              have e1 := dec_ge hlt2
              obtain ⟨g3, off3, ba, bc, cc, hst, hsd, hby, hcm, hdn, hwn, hln2, -, -⟩ := exit_s HI8.out HX8.out hm hlt2 hn5 hb2 HBK.out
              have HST := Lib.hid hst
              have HSD2 := Lib.hid hsd
              have HBY := Lib.hid hby
              have HCM := Lib.hid hcm
              have HDN := Lib.hid hdn
              clear hst hsd hby hcm hdn hln2 HX8 HI8
              go_upto_region 29 with fail
              clear x0 x1 x2 hz
              go_region_held3 (fun w' => w'.cell? ⟨rb, 2, none⟩ = some (.slice (some ⟨g3, off3, none⟩) 1 cc) ∧ w'.cell? ⟨g3, off3, none⟩ = some (.int .i64 ((n : Int) + 1)) ∧ w'.cell? ⟨g3, off3 + 1, none⟩ = some (.slice ba b.l.length bc) ∧ w'.cell? ⟨g, off + k, none⟩ = some (.slice b.a b.l.length b.c) ∧ Below wr.heap.size wr w') (first | (exact HSD2.out) | (refine HST.out _ _ hbn ?_; assumption)) (first | (go_at_call 11; refine (HBY.out _ (by assumption)).mono ?_; rintro e wn ⟨rfl, hbn⟩) | (go_at_call 12; refine (HCM.out _ (by assumption)).mono ?_; rintro e wn ⟨rfl, hbn⟩))
              rename_i hsn
              have HIE := Lib.hid (HDN.out.fr hsn.2.2.2.2)
              clear hsn
              go_upto_region 31 with fail
              go_upto_if 160 with fail
              generalize hq : (bits BinOp.and IntKind.i64 (f / 2 ^ k) 1 == 1) = q
              clear hq
              cases q with
              | false =>
                as_aux_lemma =>
                go_wp2_with fail
                go_roundw
                case rel => exact ⟨k + 1, n + 1, pb, hlt, h40, Nat.succ_le_succ hnk, castv k, castv n, rfl, cast1 ⟨true, HIE.out⟩⟩
                case measure => exact less40 h40
              | true =>
                as_aux_lemma =>
                obtain ⟨S, ⟨y0, y1, y2, y3, y4, y5⟩, hnw⟩ := fall_s HIE.out hn2
                have HNW2 := Lib.hid hnw
                clear hnw
                go_upto_region 33 with (go_at_call 4; refine HNW2.out.mono ?_; rintro e w12 ⟨pb2, rfl, hi12⟩; have HIN := Lib.hid hi12; clear hi12)
                clear y0 y1 y2 y3 y4 y5
                go_upto_region 35 with (first | (go_at_call 12; refine (n_commit HIN.out hn2).mono ?_; rintro e w13 ⟨rfl, hb13⟩; have HIN2 := Lib.hid (HIN.out.fr hb13); clear hb13) | (go_at_call 6; refine HIN2.out.leads.mono ?_; rintro e w14 ⟨rfl, rfl⟩))
                go_upto_region 36 with (go_at_call 9; refine (n_ready HIN2.out).mono ?_; rintro e w15 ⟨na, nl, nc, la2, lc2, ca, cl, cc2, ri2, xa2, xl2, xc2, rfl, hcl, hi15⟩; have HIN3 := Lib.hid hi15; have HCL := Lib.hid hcl; clear hi15 hcl)
                obtain ⟨rb2, hrb2⟩ : ∃ rb2, rb2 = w15.heap.size := ⟨_, rfl⟩
                obtain ⟨w16, hw16⟩ : ∃ w16, w16 = w15.alloc (.cells #[.slice na nl nc, .slice la2 0 lc2, .slice ca cl cc2, .int .i64 ri2, .slice xa2 xl2 xc2] 40) := ⟨_, rfl⟩
                obtain ⟨x2, hz2, HIF⟩ := box_in hw16 hrb2 HIN3.out
                rw [← hw16, ← hrb2]
                clear hw16 hrb2 HIN3
                have hne := ne_of HCL.out
                go_wp2_with fail
                go_roundw
                case rel => exact ⟨k + 1, n + 1, pb2, hlt, h40, Nat.succ_le_succ hnk, castv k, castv n, rfl, cast1 HIF.out⟩
                case measure => exact less40 h40
      · have d1 : decide ((k : Int) < (L.length : Int)) = true := decide_eq_true (by omega)
        have d2 : decide ((k : Int) < 40) = false := decide_eq_false (by omega)
        go_wp2_with fail
        go_ret
        exact ⟨rfl, HB.out⟩
    · have d1 : decide ((k : Int) < (L.length : Int)) = false := decide_eq_false (by omega)
      go_wp2_with fail
      go_ret
      exact ⟨rfl, HB.out⟩
theorem elem_val {H : Type} {enc : TypeId × Value → H} {W : World} (n : Nat) (cs : List Value) (y : DataW H × List MemPlace) (hl : cs.length = 1) (h : DataW.trod enc Tryz.prog W 0 (fun _ => true) true n 30 cs = some y) :
    ∃ b : Sl Nat, cs = [b.val] ∧ RdA W b := by
  match cs, hl with
  | [v], _ =>
    obtain ⟨ad, l, cap, ed, hlc, hcm, hnil, hlie, hwf⟩ := accr.elem_ints Tryz.underlying30 Tryz.underlying5 (by kernel_rfl) h
    obtain ⟨q, rfl, hq⟩ := accr.nat_list l (accr.byte_wf hwf)
    rw [accr.bcells_of] at hlie
    simp only [List.length_map] at ed hnil
    exact ⟨⟨ad, cap, q⟩, by rw [ed]; rfl, hnil, hq, hlie⟩
theorem lawWalk {H : Type} (enc : TypeId × Value → H) : LawWalk enc Tryz.prog 3 Tryz.f3 (fun _ => True) := by
  intro W base args ds p hval hA hsz _
  rw [Tryz.params3] at hA hval
  obtain ⟨v0, vs0, d0, ds0, p0, q0, hargs, rfl, rfl, h0, r0⟩ := trodAll_cons hA
  obtain ⟨v1, vs1, d1, ds1, p1, q1, rfl, rfl, rfl, h1, r1⟩ := trodAll_cons r0
  obtain ⟨rfl, rfl, rfl⟩ := trodAll_nil r1
  obtain rfl : args = #[v0, v1] := by cases args; simp_all
  obtain ⟨a, L, cap, es, sp, rfl, hlc, hcm, hnil, hrow, hd, hel, hsp, hgood⟩ := open_slice_gen 1 (fun b : Sl Nat => [b.val]) (fun b _ => RdA W b) Tryz.underlying22 (by kernel_rfl) (by decide) (fun n cs y hcs hc => elem_val n cs y hcs hc) (hval 0 22 v0 rfl rfl) h0
  obtain ⟨f, rfl, rfl, rfl, w1⟩ := open_int Tryz.underlying3 (hval 1 3 v1 rfl rfl) h1
  refine one_ok W a L cap f (by unfold maxLen at hcm; omega) hrow (fun b hb => ?_)
  obtain ⟨i, hi, rfl⟩ := List.getElem_of_mem hb
  exact hgood i hi (by omega)

theorem own : ownKnob Tryz.prog.godebug = none := by kernel_rfl
theorem laidOut : laidOutB Tryz.prog = true := by kernel_rfl

set_option maxRecDepth 100000 in
theorem lifted (os : Os) (started : os.Started) (H : Type) (enc : TypeId × Value → H) :
    ReturnsInHanded {} Tryz.checked os 3 .any (Rows.peerOneSpec.pre6 enc Tryz.prog Tryz.f3 Rows.peerOneRow.domain false) (Rows.peerOneSpec.post enc Tryz.prog Tryz.f3 false true false false) := by
  refine returnsInHanded_of_change_sized (C := Tryz.checked) own started (by kernel_rfl) Tryz.func3
    (ChangeSpec.witness6 (enc := enc) (C := Tryz.checked) false ⟨#[], #[.slice none 0 0, .int .i64 0], []⟩ 8 (by kernel_rfl) (by kernel_rfl) (by kernel_rfl) (by kernel_rfl)) ?_
  intro W base args ds gs before hval hW hcnd hsz _
  exact law_post (C := Tryz.checked) laidOut (fun ds h => by match ds, h with | [_, _], _ => rfl) 4 rfl Tryz.underlying4 rfl (by kernel_rfl) hval hW hsz trivial (lawWalk enc)

theorem proved : Rows.PeerOneSaid :=
  OpenClaim.holds_of_wide 3 Tryz.f3 rfl rfl rfl rfl rfl rfl rfl ⟨rfl, rfl, rfl, rfl, rfl⟩ rfl rfl rfl rfl rfl (by kernel_rfl) Tryz.func3 (by kernel_rfl)
    (of_decide_eq_true (by kernel_rfl)) (by unfold Func.isWrapper; first | (rw [if_pos (by decide +kernel)]; kernel_rfl) | (rw [if_neg (by decide +kernel)]; exact ⟨rfl, rfl⟩))
    (fun os started H enc _ => lifted os started H enc)
#print axioms proved
end Go.Proofs.YtcaakiaenfkeaaaGreat.peerOne
