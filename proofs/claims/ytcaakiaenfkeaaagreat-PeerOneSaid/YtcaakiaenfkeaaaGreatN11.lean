/-
  offer: a member is told what is proposed for a slot.
-/
import Derived.Test.YtcaakiaenfkeaaaGreatN09
namespace Go.Proofs.YtcaakiaenfkeaaaGreat.peo
open Go.ChangeShapes Go.WideShapes Go.ChangeAt Go.RowKit
open Go.Proofs.YtcaakiaenfkeaaaGreat.kit Go.Proofs.YtcaakiaenfkeaaaGreat.mapkit Go.Proofs.YtcaakiaenfkeaaaGreat.byt Go.Proofs.YtcaakiaenfkeaaaGreat.own Go.Proofs.YtcaakiaenfkeaaaGreat.accd Go.Proofs.YtcaakiaenfkeaaaGreat.accb Go.Proofs.YtcaakiaenfkeaaaGreat.acce Go.Proofs.YtcaakiaenfkeaaaGreat.chd Go.Proofs.YtcaakiaenfkeaaaGreat.che Go.Proofs.YtcaakiaenfkeaaaGreat.ownr Go.Proofs.YtcaakiaenfkeaaaGreat.pep Go.Proofs.YtcaakiaenfkeaaaGreat.peb Go.Proofs.YtcaakiaenfkeaaaGreat.pem Go.Proofs.YtcaakiaenfkeaaaGreat.pen Go.Proofs.YtcaakiaenfkeaaaGreat.pes
set_option linter.unusedVariables false
set_option linter.unusedSimpArgs false
set_option maxHeartbeats 4000000
set_option maxRecDepth 100000

def offC (M : PM) : Int := if 0 < M.taken then 0 else M.index + M.en.l.length
def offL (M : PM) (dst s : Int) (d : List Nat) (a1 a2 : Option Addr) (c1 c2 : Nat) : LtM := ⟨3, M.node, dst, M.o1, M.o2, s, offC M, sl0, ⟨a1, c1, [⟨s, d, a2, c2⟩]⟩, 0, 0, 0, sl0⟩
theorem rol_one {w W : World} {O : Owners} {s : Int} {d : List Nat} {a2 : Option Addr} {c2 : Nat} {k fr dst b1 b2 sl cm : Int} (hc : ownr.Clean w O) (hs : w.heap.size ≤ W.heap.size) (h : RoB W ⟨a2, c2, d⟩) :
    RoL (W.alloc (.cells #[.int .i64 s, .slice a2 d.length c2] 47)) O ⟨k, fr, dst, b1, b2, sl, cm, sl0, ⟨some ⟨W.heap.size, 0, none⟩, 1, [⟨s, d, a2, c2⟩]⟩, 0, 0, 0, sl0⟩ := by
  refine ⟨rorow_nil _ _ _, by simp [sl0], ⟨by simp, ?_, fun g off hg => ?_⟩, fun e he => ?_, rob_nil _⟩
  · refine .inr ⟨W.heap.size, 0, rfl, by rw [size_new]; omega, fun i hi j hj => ?_⟩
    have hi0 : i = 0 := by simpa using hi
    subst hi0
    rw [(kit.blk (hp_alloc_new W _)).1]
    match j, hj with
    | 0, _ => rfl
    | 1, _ => rfl
  · simp only [Option.some.injEq, Addr.mk.injEq] at hg
    obtain ⟨rfl, _⟩ := hg
    exact ⟨hc _ hs, by rw [size_new]; omega⟩
  · rw [List.mem_singleton.1 he]; exact h.below (below_new1 W _)
theorem offer_ok (w : World) (O : Owners) (i pb : Nat) (M : PM) (dst s : Int) (b : Sl Nat) (h : PeerAt w O i pb M) (hb : RoB w b) (h1 : 0 ≤ M.index ∧ M.index ≤ 4398046511104) (h2 : M.en.l.length ≤ 1000000000) (h2l : M.lt.l.length ≤ 1000000000) :
    Calls Tryz.prog 34 #[.pointer (some ⟨pb, 0, none⟩), .int .i64 dst, .agg #[.int .i64 s, .slice b.a b.l.length b.c]] w fun e w' => e = .returned (.tuple #[]) ∧ ∃ (a : Option Addr) (c : Nat) (a1 a2 : Option Addr) (c1 c2 : Nat), Behind w O i pb (Mine i) w' { M with lt := ⟨a, c, M.lt.l ++ [offL M dst s b.l a1 a2 c1 c2]⟩ } := by
  have HP := Lib.hid h
  obtain ⟨w1, hw1⟩ : ∃ w1, w1 = w.alloc (.cells #[.int .i64 s, .slice b.a b.l.length b.c] 47) := ⟨_, rfl⟩
  have hb1 : Below w.heap.size w w1 := by rw [hw1]; exact below_new1 _ _
  have hn1 : w1.heap[w.heap.size]? = some (.cells #[.int .i64 s, .slice b.a b.l.length b.c] 47 (0, 0)) := by rw [hw1]; exact hp_alloc_new _ _
  have P1 := PeerAt.below h hb1
  have HC := Lib.hid (commit_ok w1 O i pb M P1 h1 (by omega))
  obtain ⟨eb, heb⟩ : ∃ eb, eb = w.heap.size := ⟨_, rfl⟩
  rw [← heb] at hn1
  have HEB := Lib.hid heb
  have HN1 := Lib.hid hn1
  have HB1 := Lib.hid hb1
  have HRB := Lib.hid hb
  have HW1 := Lib.hid hw1
  clear h hb hb1 hn1 P1 hw1 heb
  go_enter Tryz.func34, Tryz.ntmps34
  go_upto_region 1 with fail
  rw [← HW1.out, ← HEB.out]
  go_upto_region 2 with (go_at_call 12; refine HC.out.mono ?_; rintro e w2 ⟨rfl, hb2⟩; have HB2 := Lib.hid (below_step HB1.out hb2); have HN2 := Lib.hid (hp_step HN1.out hb2); clear hb2)
  have P2 := PeerAt.below HP.out HB2.out
  have x40 : w2.cell? ⟨pb, 40, none⟩ = some (.int .i64 M.taken) := (kit.blk P2.blk).1 40
  have x10 : w2.cell? ⟨pb, 10, none⟩ = some (.int .i64 M.o1) := (kit.blk P2.blk).1 10
  have x11 : w2.cell? ⟨pb, 11, none⟩ = some (.int .i64 M.o2) := (kit.blk P2.blk).1 11
  obtain ⟨q0, q1, -, -, qz⟩ := blk2 HN2.out
  have hpz := (kit.blk P2.blk).2.2
  have hbd : Below w2.heap.size w2 w2.drew := below_drewN (Below.refl _ w2) 1
  have HOW := Lib.hid (own_ok w2.drew s b ((HRB.out.below HB2.out).below hbd).lie HRB.out.nil HRB.out.len HRB.out.byt)
  have HP2 := Lib.hid P2
  obtain ⟨C, hC⟩ : ∃ C, C = offC M := ⟨_, rfl⟩
  have HTE := Lib.hid (fun (w4 : World) (a2 : Option Addr) (c2 : Nat) (hb4 : Below w2.heap.size w2 w4) (hr4 : RoB w4 ⟨a2, c2, b.l⟩) => tell_ok (w4.alloc (.cells #[.int .i64 s, .slice a2 b.l.length c2] 47)) O i pb M dst ⟨3, 0, 0, M.o1, M.o2, s, C, sl0, ⟨some ⟨w4.heap.size, 0, none⟩, 1, [⟨s, b.l, a2, c2⟩]⟩, 0, 0, 0, sl0⟩ (PeerAt.below HP2.out (below_step hb4 (below_new1 w4 _))) (rol_one HP2.out.clean hb4.size hr4) h2l)
  simp only [lval, sl0, List.length_nil, List.length_singleton] at HTE
  have HCC := Lib.hid hC
  by_cases ht : 0 < M.taken
  · have e : C = 0 := by rw [hC, offC, if_pos ht]
    have HE := Lib.hid e
    rw [e] at HTE
    clear hC e P2 hbd HC
    go_upto_region 4 with fail
    go_region_law (first | (go_simp; go_at_call 15; refine HOW.out.mono ?_; rintro e w4 ⟨a2, c2, rfl, hrb2, hb4⟩; have HRB4 := Lib.hid hrb2; have HB4 := Lib.hid (below_step (below_drewN (Below.refl _ w2) 1) hb4); have z10 := cell_step (W := w2.drew) x10 hb4; have z11 := cell_step (W := w2.drew) x11 hb4; have y0 := cell_step (W := w2.drew) q0 hb4; have z10' : ∀ o : Obj, (w4.alloc o).cell? ⟨pb, 10, none⟩ = some (.int .i64 M.o1) := fun o => cell_step z10 (below_new1 _ o); have z11' : ∀ o : Obj, (w4.alloc o).cell? ⟨pb, 11, none⟩ = some (.int .i64 M.o2) := fun o => cell_step z11 (below_new1 _ o); have y0' : ∀ o : Obj, (w4.alloc o).cell? ⟨eb, 0, none⟩ = some (.int .i64 s) := fun o => cell_step y0 (below_new1 _ o); clear hrb2 hb4) | (go_simp; go_at_call 44; refine (HTE.out w4 a2 c2 HB4.out HRB4.out).mono ?_; rintro e w5 ⟨rfl, c5, a5, hL5⟩; have HL5 := Lib.hid hL5; clear hL5))
    all_goals
      go_wp2_with fail
      refine bodyPost_end (v := .tuple #[]) (by simp [results, Tryz.results34, go_sem]) rfl ⟨rfl, a5, c5, some ⟨w4.heap.size, 0, none⟩, a2, 1, c2, ?_⟩
      obtain ⟨O5, P5, F5⟩ := HL5.out
      refine ⟨O5, ?_, (Fr.of_below HP.out.clean (below_step (below_step HB2.out HB4.out) (below_new1 w4 _))).trans (F5.mono sf_mine)⟩
      rw [offL, ← HCC.out, HE.out]
      exact P5
  · have e : C = M.index + M.en.l.length := by rw [hC, offC, if_neg ht]
    have HE := Lib.hid e
    rw [e] at HTE
    clear hC e P2 hbd HC
    go_upto_region 4 with fail
    go_region_law (first | (go_simp; go_at_call 15; refine HOW.out.mono ?_; rintro e w4 ⟨a2, c2, rfl, hrb2, hb4⟩; have HRB4 := Lib.hid hrb2; have HB4 := Lib.hid (below_step (below_drewN (Below.refl _ w2) 1) hb4); have z10 := cell_step (W := w2.drew) x10 hb4; have z11 := cell_step (W := w2.drew) x11 hb4; have y0 := cell_step (W := w2.drew) q0 hb4; have z10' : ∀ o : Obj, (w4.alloc o).cell? ⟨pb, 10, none⟩ = some (.int .i64 M.o1) := fun o => cell_step z10 (below_new1 _ o); have z11' : ∀ o : Obj, (w4.alloc o).cell? ⟨pb, 11, none⟩ = some (.int .i64 M.o2) := fun o => cell_step z11 (below_new1 _ o); have y0' : ∀ o : Obj, (w4.alloc o).cell? ⟨eb, 0, none⟩ = some (.int .i64 s) := fun o => cell_step y0 (below_new1 _ o); clear hrb2 hb4) | (go_simp; go_at_call 44; refine (HTE.out w4 a2 c2 HB4.out HRB4.out).mono ?_; rintro e w5 ⟨rfl, c5, a5, hL5⟩; have HL5 := Lib.hid hL5; clear hL5))
    all_goals
      go_wp2_with fail
      refine bodyPost_end (v := .tuple #[]) (by simp [results, Tryz.results34, go_sem]) rfl ⟨rfl, a5, c5, some ⟨w4.heap.size, 0, none⟩, a2, 1, c2, ?_⟩
      obtain ⟨O5, P5, F5⟩ := HL5.out
      refine ⟨O5, ?_, (Fr.of_below HP.out.clean (below_step (below_step HB2.out HB4.out) (below_new1 w4 _))).trans (F5.mono sf_mine)⟩
      rw [offL, ← HCC.out, HE.out]
      exact P5
end Go.Proofs.YtcaakiaenfkeaaaGreat.peo
