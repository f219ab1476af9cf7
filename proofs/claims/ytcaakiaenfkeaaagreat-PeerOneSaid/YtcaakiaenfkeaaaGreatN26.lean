/-
  put of a note that says a vote.
-/
import Derived.Test.YtcaakiaenfkeaaaGreatN25
import Derived.Deep.CutBlock
import Derived.Test.YtcaakiaenfkeaaaGreatN09
import Derived.Test.YtcaakiaenfkeaaaGreatN24
namespace Go.Proofs.YtcaakiaenfkeaaaGreat.pesv
open Go.ChangeShapes Go.WideShapes Go.ChangeAt Go.RowKit
open Go.Proofs.YtcaakiaenfkeaaaGreat.kit Go.Proofs.YtcaakiaenfkeaaaGreat.mapkit Go.Proofs.YtcaakiaenfkeaaaGreat.byt Go.Proofs.YtcaakiaenfkeaaaGreat.own Go.Proofs.YtcaakiaenfkeaaaGreat.accd Go.Proofs.YtcaakiaenfkeaaaGreat.accb Go.Proofs.YtcaakiaenfkeaaaGreat.acce Go.Proofs.YtcaakiaenfkeaaaGreat.chd Go.Proofs.YtcaakiaenfkeaaaGreat.che Go.Proofs.YtcaakiaenfkeaaaGreat.ownr Go.Proofs.YtcaakiaenfkeaaaGreat.pep Go.Proofs.YtcaakiaenfkeaaaGreat.peb Go.Proofs.YtcaakiaenfkeaaaGreat.pem Go.Proofs.YtcaakiaenfkeaaaGreat.pen Go.Proofs.YtcaakiaenfkeaaaGreat.pelo
set_option linter.unusedVariables false
set_option linter.unusedSimpArgs false
set_option maxHeartbeats 4000000
set_option maxRecDepth 100000

/-- What is saved behind a vote: the votes as they lie now. -/
def _root_.Go.Proofs.YtcaakiaenfkeaaaGreat.pelo.SvM.vote (S : SvM) (v : Vt) (vs : Sl Vt) : SvM := SvM.prom { S with vs := vs } (v.r, v.n)
theorem put_vote (w : World) (O : Owners) (j sb : Nat) (S : SvM) (n : NtM) (h : SavAt w O j sb S) (hk : n.kind = 2) (h1 : 0 ≤ S.ix ∧ S.ix + S.en.l.length ≤ 1000000000000) (h3 : S.vs.l.length ≤ 16) (hs : S.ix + S.en.l.length < n.v.s) (hE : accE n.v.r n.v.n (S.ix + S.en.l.length + 1) (lv n.v) = 0) (hr : RoB w ⟨n.v.a, n.v.c, n.v.l⟩) :
    Calls Tryz.prog 10 #[.pointer (some ⟨sb, 0, none⟩), nval n] w fun e w' => e = .returned (.bool true) ∧ (∃ vs : Sl Vt, vs.l.map lv = put4 (S.vs.l.map lv) (lv n.v) ∧ SavAt w' O j sb (S.vote n.v vs)) ∧ Keep (fun k => k = sb) w w' := by
  obtain ⟨w1, hw1⟩ : ∃ w1, w1 = w.alloc (.cells n.cells.toArray 51) := ⟨_, rfl⟩
  have hb1 : Below w.heap.size w w1 := by rw [hw1]; exact below_new1 _ _
  have hn1 : w1.heap[w.heap.size]? = some (.cells n.cells.toArray 51 (0, 0)) := by rw [hw1]; exact hp_alloc_new _ _
  obtain ⟨nb, hnb⟩ : ∃ nb, nb = w.heap.size := ⟨_, rfl⟩
  rw [← hnb] at hn1
  obtain ⟨C, hC⟩ : ∃ C : Int, C = S.ix + (S.en.l.length : Int) := ⟨_, rfl⟩
  have hwc : IntKind.i64.wrap (S.ix + (S.en.l.length : Int)) = C := by rw [hC]; exact IntWalk.i64_in _ (by omega)
  have hwd : IntKind.i64.wrap (C + 1) = C + 1 := IntWalk.i64_in _ (by omega)
  have hdl : decide (C < n.v.s) = true := decide_eq_true (by omega)
  rw [← hC] at hE hs
  obtain ⟨hre, hln, -, hf1, hf2⟩ := accl.acc0 (A := ⟨n.v.r, n.v.n, C + 1, []⟩) hE
  obtain ⟨k0, k2, k3, k4, k5, k6, k7, -, -, kz⟩ := cellsN hn1
  rw [hk] at k0
  have hS1 := h.below hb1
  obtain ⟨s0, s1, s2, s3, s4, s5, sz, -⟩ := cells6 hS1.blk
  have HS1 := Lib.hid hS1
  have HN1 := Lib.hid hn1
  have HB1 := Lib.hid hb1
  have HNB := Lib.hid hnb
  have HH := Lib.hid h
  have HRB := Lib.hid hr
  have HEE := Lib.hid hE
  have HC := Lib.hid hC
  have H1 := Lib.hid h1
  simp only [NtM.cells, hk] at hw1
  simp only [nval, hk]
  clear hS1 hn1 hb1 hnb h hr hE hs hre hf1 hf2 hC h1
  have HW1 := Lib.hid hw1
  clear hw1
  go_enter Tryz.func10, Tryz.ntmps10
  go_wp2_with fail
  rw [← HW1.out, ← HNB.out]
  go_quiet (fail)
  obtain ⟨w2, hw2⟩ : ∃ w2 : World, w2 = w1.drewN nq := ⟨_, rfl⟩
  rw [← hw2]
  have HB2 := Lib.hid (show Below w1.heap.size w1 w2 by rw [hw2]; exact below_drewN (Below.refl _ w1) nq)
  clear s0 s1 s2 s3 s4 s5 sz k0 k2 k3 k4 k5 k6 k7 kz hw2
  obtain ⟨k0, k2, k3, k4, k5, k6, k7, -, -, kz⟩ := cellsN (hp_step HN1.out HB2.out)
  rw [hk] at k0
  obtain ⟨s0, s1, s2, s3, s4, s5, sz, -⟩ := cells6 (HS1.out.below HB2.out).blk
  go_upto_region 9 with fail
  go_region
  go_upto_region 10 with fail
  obtain ⟨br, hbr⟩ : ∃ br, br = w2.heap.size := ⟨_, rfl⟩
  obtain ⟨w5, hw5⟩ : ∃ w5 : World, w5 = (w2.alloc (.cells #[.int .i64 n.v.r, .int .i64 n.v.n, .int .i64 (C + 1), .slice S.vs.a S.vs.l.length S.vs.c] 87)).drew := ⟨_, rfl⟩
  rw [← hw5, ← hbr]
  have hb5 : Below w2.heap.size w2 w5 := by rw [hw5]; exact below_drewN (below_new1 _ _) 1
  have hn5 : w5.heap[br]? = some (.cells #[.int .i64 n.v.r, .int .i64 n.v.n, .int .i64 (C + 1), .slice S.vs.a S.vs.l.length S.vs.c] 87 (0, 0)) := by rw [hw5, hbr]; exact hp_alloc_new _ _
  have hb15 := below_step HB2.out hb5
  have hs5 := (HS1.out.below hb15)
  have hbz : w1.heap.size ≤ br := by rw [hbr]; exact HB2.out.size
  have hR5 : acct.RefAt w w5 0 br ⟨n.v.r, n.v.n, C + 1, S.vs.l.map lv⟩ := ⟨trivial, S.vs.a, S.vs.c, S.vs.l, hn5, hs5.vr.row, rfl, fun x hx => HH.out.vb x hx⟩
  have HAC := Lib.hid (accv.raccept_yes w w5 0 br ⟨n.v.r, n.v.n, C + 1, S.vs.l.map lv⟩ n.v hR5 HEE.out (by have := H1.out; have := HC.out; constructor <;> dsimp only <;> omega) (by show (S.vs.l.map lv).length ≤ 16; rw [List.length_map]; exact h3) HRB.out)
  have HB15 := Lib.hid hb15
  have hbr2 : br ≠ sb := by omega
  have hsz1 : w.heap.size < w1.heap.size := by rw [← HNB.out]; exact (kit.blk HN1.out).2.2
  clear s0 s1 s2 s3 s4 s5 sz k0 k2 k3 k4 k5 k6 k7 kz hw5 hb5 hn5 hb15 hs5 hR5 hbr
  obtain ⟨k0, k2, k3, k4, k5, k6, k7, -, -, kz⟩ := cellsN (hp_step HN1.out HB15.out)
  rw [hk] at k0
  go_upto_region 12 with (go_at_call 26; refine HAC.out.mono ?_; rintro e w6 ⟨rfl, hR6, hK6⟩; have HR6 := Lib.hid hR6; have HB16 := Lib.hid (HB15.out.trans (hK6.below HB15.out.size (fun k hk e => by subst e; omega))); clear hR6 hK6)
  obtain ⟨-, a6, c6, xs6, hn6, hr6, hx6, hd6⟩ := HR6.out
  obtain ⟨r0, r1, r2, r3, rz⟩ := acca.blk4 hn6
  have hb06 := HB1.out.trans (Below.mono HB16.out (Nat.le_of_lt hsz1))
  have hS6 := HH.out.below hb06
  obtain ⟨s0, s1, s2, s3, s4, s5, sz, f0, f1, f2, f3, f4, f5⟩ := cells6 hS6.blk
  obtain ⟨S2, hS2⟩ : ∃ S2 : SvM, S2 = { S with vs := ⟨a6, c6, xs6⟩ } := ⟨_, rfl⟩
  obtain ⟨w7, hw7⟩ : ∃ w7, w7 = w6.setCell ⟨sb, 2, none⟩ (.slice a6 xs6.length c6) := ⟨_, rfl⟩
  have hk7 : Keep (fun k => k = sb) w w7 := by rw [hw7]; exact (Keep.of_below (S := fun k => k = sb) hb06).setCell (p := ⟨sb, 2, none⟩) (.inr rfl) _
  have hb7 : w7.heap[sb]? = some (.cells S2.cells 33 (0, 0)) := by rw [hw7, hS2]; exact hp_set hS6.blk 2 _
  have hS7 : SavAt w7 O j sb S2 := by
    refine ⟨hS6.clean.more (by rw [hw7, size_set]; exact Nat.le_refl _), hS6.me, hb7, hS6.tag, ?_, fun v hv => ?_, ?_, fun e he => ?_, ?_⟩
    · have hrow : w7.ownsRow w5.heap.size 45 4 (.slice a6 xs6.length c6) xs6.length (vcells xs6) := by
        rw [hw7]
        exact own_kept hr6 (fun g hg => hp_set_ne (own_ne hr6 hS6.blk (by decide) g hg))
      rw [hS2]
      exact row_new hrow HH.out.clean (Nat.le_trans (Nat.le_of_lt hsz1) HB15.out.size)
    · rw [hS2] at hv
      exact rob_keep (hd6 v hv) hk7 HH.out.blk
    · rw [hS2]; exact row_keep HH.out.er hk7 HH.out.blk (by decide)
    · rw [hS2] at he; exact rob_keep (HH.out.eb e he) hk7 HH.out.blk
    · rw [hS2]; exact rob_keep HH.out.im hk7 HH.out.blk
  have hnb7 : w7.heap[nb]? = some (.cells n.cells.toArray 51 (0, 0)) := by
    have h6 := hp_step HN1.out HB16.out
    rw [hw7, hp_set_ne (by rintro rfl; rw [hS6.blk] at h6; simp at h6)]
    exact h6
  have HS7 := Lib.hid hS7
  have HK7 := Lib.hid hk7
  have HN7 := Lib.hid hnb7
  have HW7 := Lib.hid hw7
  have HS2 := Lib.hid hS2
  have HX6 := Lib.hid hx6
  have HLE := Lib.hid (acct.rless_any S.p1 S.p2 n.v.r n.v.n w7.drew)
  clear hn6 hr6 hx6 hd6 hb06 hS6 hS2 hk7 hb7 hS7 hnb7 hw7 HR6
  go_upto_region 13 with fail
  rw [← HW7.out]
  clear s0 s1 s2 s3 s4 s5 sz f0 f1 f2 f3 f4 f5 r0 r1 r2 r3 rz k0 k2 k3 k4 k5 k6 k7 kz
  have hc7 := cells6 HS7.out.blk
  have e1 : S2.p1 = S.p1 := by rw [HS2.out]
  have e2 : S2.p2 = S.p2 := by rw [HS2.out]
  simp only [Cells6, e1, e2] at hc7
  obtain ⟨s0, s1, -, -, -, -, sz, -⟩ := hc7
  obtain ⟨k0, -, -, k4, k5, k6, -, -, -, kz⟩ := cellsN HN7.out
  go_still_tail 7, (by kernel_rfl)
  change wpList _ _ _ _ _ w7.drew
  go_wp2_with fail
  refine HLE.out.mono ?_; rintro e w8 ⟨rfl, hb8⟩
  have HB78 := Lib.hid (below_step (below_drewN (Below.refl _ w7) 1) hb8)
  clear s0 s1 sz k0 k4 k5 k6 kz hb8 HLE
  obtain ⟨k0, -, -, k4, k5, k6, -, -, -, kz⟩ := cellsN (hp_step HN7.out HB78.out)
  have hc8 := cells6 (HS7.out.below HB78.out).blk
  simp only [Cells6, e1, e2] at hc8
  obtain ⟨s0, s1, -, -, -, -, sz, f0, f1, -⟩ := hc8
  have HK8 := Lib.hid (HK7.out.trans (Keep.of_below HB78.out))
  cases hL : acca.lessB S.p1 S.p2 n.v.r n.v.n with
  | false =>
    have hP : SvM.vote S n.v ⟨a6, c6, xs6⟩ = S2 := by unfold SvM.vote SvM.prom; rw [HS2.out]; exact if_neg (by dsimp only; rw [hL]; simp)
    go_wp2_with fail
    go_ret
    exact ⟨rfl, ⟨⟨a6, c6, xs6⟩, HX6.out, by rw [hP]; exact HS7.out.below HB78.out⟩, HK8.out⟩
  | true =>
    have hP : SvM.vote S n.v ⟨a6, c6, xs6⟩ = { S2 with p1 := n.v.r, p2 := n.v.n } := by unfold SvM.vote SvM.prom; rw [HS2.out]; exact if_pos (by dsimp only; rw [hL])
    have hfin : SavAt ((w8.setCell ⟨sb, 0, none⟩ (.int .i64 n.v.r)).setCell ⟨sb, 1, none⟩ (.int .i64 n.v.n)) O j sb { S2 with p1 := n.v.r, p2 := n.v.n } ∧ Keep (fun k => k = sb) w ((w8.setCell ⟨sb, 0, none⟩ (.int .i64 n.v.r)).setCell ⟨sb, 1, none⟩ (.int .i64 n.v.n)) := by
      have k8 := ((Keep.of_below (S := fun k => k = sb) HB78.out).setCell (p := ⟨sb, 0, none⟩) (.inr rfl) (.int .i64 n.v.r)).setCell (p := ⟨sb, 1, none⟩) (.inr rfl) (.int .i64 n.v.n)
      exact ⟨HS7.out.seen n.v.r n.v.n k8 (hp_set (hp_set (HS7.out.below HB78.out).blk 0 _) 1 _), HK7.out.trans k8⟩
    have HFIN := Lib.hid hfin
    clear hfin
    go_wp2_with fail
    go_ret
    exact ⟨rfl, ⟨⟨a6, c6, xs6⟩, HX6.out, by rw [hP]; exact HFIN.out.1⟩, HFIN.out.2⟩
end Go.Proofs.YtcaakiaenfkeaaaGreat.pesv
/-
  put of a note that says an entry.
-/
namespace Go.Proofs.YtcaakiaenfkeaaaGreat.pesv
open Go.ChangeShapes Go.WideShapes Go.ChangeAt Go.RowKit
open Go.Proofs.YtcaakiaenfkeaaaGreat.kit Go.Proofs.YtcaakiaenfkeaaaGreat.mapkit Go.Proofs.YtcaakiaenfkeaaaGreat.byt Go.Proofs.YtcaakiaenfkeaaaGreat.own Go.Proofs.YtcaakiaenfkeaaaGreat.accd Go.Proofs.YtcaakiaenfkeaaaGreat.accb Go.Proofs.YtcaakiaenfkeaaaGreat.acce Go.Proofs.YtcaakiaenfkeaaaGreat.chd Go.Proofs.YtcaakiaenfkeaaaGreat.che Go.Proofs.YtcaakiaenfkeaaaGreat.cho Go.Proofs.YtcaakiaenfkeaaaGreat.ownr Go.Proofs.YtcaakiaenfkeaaaGreat.pep Go.Proofs.YtcaakiaenfkeaaaGreat.peb Go.Proofs.YtcaakiaenfkeaaaGreat.pem Go.Proofs.YtcaakiaenfkeaaaGreat.pen Go.Proofs.YtcaakiaenfkeaaaGreat.pelo
set_option linter.unusedVariables false
set_option linter.unusedSimpArgs false
set_option maxHeartbeats 4000000
set_option maxRecDepth 100000

theorem ent_fin {w W2 w5 : World} {O : Owners} {j sb c5 co : Nat} {S : SvM} {a5 ao : Option Addr} {zs : List Et} {e : Et} (h : SavAt w O j sb S) (hb : Below w.heap.size w W2) (hz : OutE w W2 ao co zs (S.en.l.map le)) (he : RoB w ⟨e.a, e.c, e.l⟩)
    (hown : w5.ownsRow w.heap.size 47 2 (.slice a5 (zs.length + 1) c5) (zs.length + 1) (zs.flatMap Et.cells ++ [.int .i64 e.s, .slice e.a e.l.length e.c])) (hg : W2.grownBy w5 (Value.slice ao zs.length co).ownBlock) :
    (SavAt (w5.setCell ⟨sb, 5, none⟩ (.slice a5 (zs.length + 1) c5)) O j sb { S with en := ⟨a5, c5, zs ++ [e]⟩ } ∧ Keep (fun k => k = sb) w (w5.setCell ⟨sb, 5, none⟩ (.slice a5 (zs.length + 1) c5))) ∧ (∃ v, w5.cell? ⟨sb, 5, none⟩ = some v) ∧ w5.frozen? ⟨sb, 5, none⟩ = false := by
  have hb5 : Below w.heap.size w w5 := hb.grown hg hb.size (fun k hk => (own_from hz.own.row k (own_block hz.own.row k hk)).1)
  have h5 := h.below hb5
  have hk : Keep (fun k => k = sb) w (w5.setCell ⟨sb, 5, none⟩ (.slice a5 (zs.length + 1) c5)) := (Keep.of_below (S := fun k => k = sb) hb5).setCell (p := ⟨sb, 5, none⟩) (.inr rfl) _
  have el : (zs ++ [e]).length = zs.length + 1 := by simp
  have ef : (zs ++ [e]).flatMap Et.cells = zs.flatMap Et.cells ++ [.int .i64 e.s, .slice e.a e.l.length e.c] := by rw [List.flatMap_append]; simp [Et.cells]
  refine ⟨⟨⟨h5.clean.more (by rw [size_set]; exact Nat.le_refl _), h.me, ?_, h5.tag, row_keep h.vr hk h.blk (by decide), fun v hv => rob_keep (h.vb v hv) hk h.blk, ?_, fun x hx => ?_, rob_keep h.im hk h.blk⟩, hk⟩, ⟨_, (cells6 h5.blk).2.2.2.2.2.1⟩, (kit.blk h5.blk).2.1 5⟩
  · have h9 := hp_set h5.blk 5 (.slice a5 (zs.length + 1) c5)
    rw [← el] at h9 ⊢
    exact h9
  · have hrow : (w5.setCell ⟨sb, 5, none⟩ (.slice a5 (zs.length + 1) c5)).ownsRow w.heap.size 47 2 (.slice a5 (zs ++ [e]).length c5) (zs ++ [e]).length ((zs ++ [e]).flatMap Et.cells) := by
      rw [el, ef]
      exact own_kept hown (fun g hgg => hp_set_ne (own_ne hown h5.blk (by decide) g hgg))
    exact row_new hrow h.clean (Nat.le_refl _)
  · rcases List.mem_append.1 hx with hx | hx
    · have hm : le x ∈ S.en.l.map le := by rw [← hz.data]; exact List.mem_map_of_mem hx
      obtain ⟨y, hy, hyx⟩ := List.mem_map.1 hm
      have hry := h.eb y hy
      have e2 : y.l = x.l := congrArg Prod.snd hyx
      have r2 : RoB W2 ⟨x.a, x.c, x.l⟩ := rob_own (hz.own.body x hx) rfl (hz.len x hx) (by rw [← e2]; exact hry.byt)
      have hkg : Kept Still W2 w5 := fun g ds T hT hgd => (hg.block g (kit.blk hgd).2.2 (fun e => own_ne hz.own.row hgd (fun e2 => (by rintro (e | e) <;> exact absurd e (by decide) : ¬ Still 47) (e2 ▸ hT)) g (own_block hz.own.row g e.symm) rfl)).trans hgd
      exact rob_keep (r2.kept hg.size hkg) ((Keep.refl (fun k => k = sb) w5).setCell (p := ⟨sb, 5, none⟩) (.inr rfl) _) h5.blk
    · rw [List.mem_singleton.1 hx]
      exact rob_keep he hk h.blk
theorem vs_fin {w w6 : World} {O : Owners} {j sb c6 : Nat} {S : SvM} {a6 : Option Addr} {xs : List Vt} (h : SavAt w O j sb S) (hb : Below w.heap.size w w6) (hr : w6.ownsRow w.heap.size 45 4 (.slice a6 xs.length c6) xs.length (vcells xs)) (hv : ∀ v ∈ xs, RoB w ⟨v.a, v.c, v.l⟩) :
    SavAt (w6.setCell ⟨sb, 2, none⟩ (.slice a6 xs.length c6)) O j sb { S with vs := ⟨a6, c6, xs⟩ } ∧ Keep (fun k => k = sb) w (w6.setCell ⟨sb, 2, none⟩ (.slice a6 xs.length c6)) := by
  have h6 := h.below hb
  have hk : Keep (fun k => k = sb) w (w6.setCell ⟨sb, 2, none⟩ (.slice a6 xs.length c6)) := (Keep.of_below (S := fun k => k = sb) hb).setCell (p := ⟨sb, 2, none⟩) (.inr rfl) _
  exact ⟨⟨h6.clean.more (by rw [size_set]; exact Nat.le_refl _), h.me, hp_set h6.blk 2 _, h.tag, row_new (own_kept hr (fun g hg => hp_set_ne (own_ne hr h6.blk (by decide) g hg))) h.clean (Nat.le_refl _), fun v hx => rob_keep (hv v hx) hk h.blk, row_keep h.er hk h.blk (by decide), fun e he => rob_keep (h.eb e he) hk h.blk, rob_keep h.im hk h.blk⟩, hk⟩
theorem put_entry (w : World) (O : Owners) (j sb : Nat) (S : SvM) (n : NtM) (h : SavAt w O j sb S) (hk : n.kind = 3) (h1 : 0 ≤ S.ix ∧ S.ix + S.en.l.length ≤ 1000000000000) (h2 : S.en.l.length ≤ 1000000000) (h3 : S.vs.l.length ≤ 16) (hs : n.e.s = S.ix + S.en.l.length + 1) (hl : ∀ e ∈ S.en.l, e.l.length ≤ 140737488355328) (hr : RoB w ⟨n.e.a, n.e.c, n.e.l⟩) :
    Calls Tryz.prog 10 #[.pointer (some ⟨sb, 0, none⟩), nval n] w fun e w' => e = .returned (.bool true) ∧ (∃ (vs : Sl Vt) (en : Sl Et), vs.l.map lv = from4 (S.vs.l.map lv) (S.ix + S.en.l.length + 2) ∧ en.l.map le = S.en.l.map le ++ [(n.e.s, n.e.l)] ∧ SavAt w' O j sb { S with vs := vs, en := en }) ∧ Keep (fun k => k = sb) w w' := by
  obtain ⟨j0, hj, hy0, hy1, hy2⟩ := info_parts infoEntry
  obtain ⟨w1, hw1⟩ : ∃ w1, w1 = w.alloc (.cells n.cells.toArray 51) := ⟨_, rfl⟩
  have hb1 : Below w.heap.size w w1 := by rw [hw1]; exact below_new1 _ _
  have hn1 : w1.heap[w.heap.size]? = some (.cells n.cells.toArray 51 (0, 0)) := by rw [hw1]; exact hp_alloc_new _ _
  obtain ⟨nb, hnb⟩ : ∃ nb, nb = w.heap.size := ⟨_, rfl⟩
  rw [← hnb] at hn1
  obtain ⟨C, hC⟩ : ∃ C : Int, C = S.ix + (S.en.l.length : Int) := ⟨_, rfl⟩
  have hwc : IntKind.i64.wrap (S.ix + (S.en.l.length : Int)) = C := by rw [hC]; exact IntWalk.i64_in _ (by omega)
  have hwd : IntKind.i64.wrap (C + 1) = C + 1 := IntWalk.i64_in _ (by omega)
  have hwe : IntKind.i64.wrap (C + 2) = C + 2 := IntWalk.i64_in _ (by omega)
  rw [← hC] at hs
  rw [← hC]
  obtain ⟨k0, -, -, -, -, -, -, k8, k9, kz⟩ := cellsN hn1
  rw [hk] at k0
  rw [hs] at k8
  have hS1 := h.below hb1
  obtain ⟨s0, s1, s2, s3, s4, s5, sz, -⟩ := cells6 hS1.blk
  have HRO := Lib.hid (show RowE w S.en.a S.en.l from ⟨own_rows ecells_len h.er.row, fun e he => ⟨(h.eb e he).lie, (h.eb e he).nil, (h.eb e he).len⟩, by omega⟩)
  have HS1 := Lib.hid hS1
  have HN1 := Lib.hid hn1
  have HB1 := Lib.hid hb1
  have HNB := Lib.hid hnb
  have HH := Lib.hid h
  have HRB := Lib.hid hr
  have HC := Lib.hid hC
  have H1 := Lib.hid h1
  have HNS := Lib.hid hs
  simp only [NtM.cells, hk] at hw1
  simp only [nval, hk]
  clear hS1 hn1 hb1 hnb h hr hs hC h1
  have HW1 := Lib.hid hw1
  clear hw1
  go_enter Tryz.func10, Tryz.ntmps10
  go_wp2_with fail
  rw [← HW1.out, ← HNB.out]
  go_quiet (fail)
  obtain ⟨w2, hw2⟩ : ∃ w2 : World, w2 = w1.drewN nq := ⟨_, rfl⟩
  rw [← hw2]
  have HB2 := Lib.hid (show Below w1.heap.size w1 w2 by rw [hw2]; exact below_drewN (Below.refl _ w1) nq)
  clear s0 s1 s2 s3 s4 s5 sz k0 k8 k9 kz hw2
  obtain ⟨k0, -, -, -, -, -, -, k8, k9, kz⟩ := cellsN (hp_step HN1.out HB2.out)
  rw [hk] at k0
  rw [HNS.out] at k8
  obtain ⟨s0, s1, s2, s3, s4, s5, sz, -⟩ := cells6 (HS1.out.below HB2.out).blk
  go_upto_region 17 with fail
  have HB02 := Lib.hid (below_step HB1.out HB2.out)
  have HCE : Hid (∀ W : World, Below w2.heap.size w2 W → Calls Tryz.prog 27 #[.slice S.en.a S.en.l.length S.en.c] W fun e w' => ∃ ao co zs, e = .returned (.slice ao zs.length co) ∧ OutE w2 w' ao co zs (S.en.l.map le) ∧ Below W.heap.size W w') := by
    intro W hW
    refine (pece.copye_ok W S.en.a S.en.c S.en.l (HRO.out.below (below_step HB02.out hW))).mono ?_
    rintro e w' ⟨ao, co, zs, h1, h2, h3⟩
    exact ⟨ao, co, zs, h1, ⟨h2.own.mono hW.size, h2.data, h2.len⟩, h3⟩
  have HBD := Lib.hid (below_drewN (Below.refl w2.heap.size w2) 1)
  have HS2 := Lib.hid (HS1.out.below HB2.out)
  have HR2 := Lib.hid (HRB.out.below HB02.out)
  have HN2 := Lib.hid (hp_step HN1.out HB2.out)
  have b5 : ∀ o : Obj, (w2.alloc o).cell? ⟨sb, 5, none⟩ = some (.slice S.en.a S.en.l.length S.en.c) := fun o => cell_step s5 (below_new1 _ o)
  have hne : nb ≠ sb := by
    rintro rfl
    have h8 := HS2.out.blk
    rw [HN2.out] at h8
    simp at h8
  go_cut [] from 85 to 96 (fun wx => ∃ (a5 : Option Addr) (c5 : Nat) (zs : List Et), Hid (SavAt wx O j sb { S with en := ⟨a5, c5, zs ++ [n.e]⟩ } ∧ zs.map le = S.en.l.map le ∧ Keep (fun k => k = sb) w2 wx))
  case first =>
    go_region_law (first | (go_simp; go_at_call 27; refine (HCE.out _ (by first | exact HBD.out | exact (below_step HBD.out (below_new1 _ _)))).mono ?_; rintro e w3 ⟨ao, co, zs, rfl, ho3, hb3⟩; have HB3 : Hid (Below w2.heap.size w2 w3) := (by first | exact below_step HBD.out hb3 | exact below_step (below_step HBD.out (below_new1 _ _)) hb3); have HB3' := Lib.hid hb3; have HO3 := Lib.hid ho3; have HZL : Hid (zs.length = S.en.l.length) := (by have h := ho3.size; rw [h, List.length_map] : zs.length = S.en.l.length); obtain ⟨y0, -, -, -, -, -, -, y8, y9, yz⟩ := cellsN (hp_step HN2.out HB3.out); rw [HNS.out] at y8; have z5 := cell_step s5 HB3.out; have z5' : ∀ o : Obj, (w3.alloc o).cell? ⟨sb, 5, none⟩ = some (.slice S.en.a S.en.l.length S.en.c) := fun o => cell_step z5 (below_new1 _ o); clear ho3 hb3) | (refine step_append_at rfl (.tmp 90) (.tmp 93) 31 rfl w2.heap.size 47 j0 _ 2 32 Tryz.underlying31 hj hy0 hy1 hy2 rfl (by decide) (.slice ao zs.length co) zs.length (zs.flatMap Et.cells) rfl (HO3.out.own.row.alloc _) ⟨w3.heap.size, 0, none⟩ 1 1 [.int .i64 (C + 1), .slice n.e.a n.e.l.length n.e.c] rfl rfl (lie_list w3 47 [.int .i64 (C + 1), .slice n.e.a n.e.l.length n.e.c]) (by simp [Value.oneCell']) (by unfold maxLen; have := HZL.out; omega) (by have := HZL.out; omega) (by have := HB3.out.size; rw [size_new]; omega) ?_; intro v5 w5 hown hgr hat; obtain ⟨a5, c5, rfl⟩ := own_shape hown; obtain ⟨hF1, ⟨vo, hF3⟩, hF4⟩ := ent_fin (e := n.e) HS2.out (below_step HB3.out (below_new1 w3 _)) (HO3.out.below (below_new1 w3 _)) HR2.out (by rw [HNS.out]; exact hown) hgr; have HF := Lib.hid hF1; clear hF1 hown hgr hat) | (refine step_append_at rfl (.tmp 90) (.tmp 93) 31 rfl w2.heap.size 47 j0 _ 2 32 Tryz.underlying31 hj hy0 hy1 hy2 rfl (by decide) (.slice ao zs.length co) zs.length (zs.flatMap Et.cells) rfl HO3.out.own.row ⟨w2.heap.size, 0, none⟩ 1 1 [.int .i64 (C + 1), .slice n.e.a n.e.l.length n.e.c] rfl rfl ((lie_list w2.drew 47 [.int .i64 (C + 1), .slice n.e.a n.e.l.length n.e.c]).below HB3'.out) (by simp [Value.oneCell']) (by unfold maxLen; have := HZL.out; omega) (by have := HZL.out; omega) HB3.out.size ?_; intro v5 w5 hown hgr hat; obtain ⟨a5, c5, rfl⟩ := own_shape hown; obtain ⟨hF1, ⟨vo, hF3⟩, hF4⟩ := ent_fin (e := n.e) HS2.out HB3.out HO3.out HR2.out (by rw [HNS.out]; exact hown) hgr; have HF := Lib.hid hF1; clear hF1 hown hgr hat))
    all_goals
      go_wp2_with fail
      go_meet
      case rel => exact ⟨a5, c5, zs, HF.out.1, HO3.out.data, HF.out.2⟩
  case rest =>
    obtain ⟨a5, c5, zs, HX⟩ := hcut
    obtain ⟨hs3, hz3, hk3⟩ := HX.out
    obtain ⟨S3, hS3⟩ : ∃ S3 : SvM, S3 = { S with en := ⟨a5, c5, zs ++ [n.e]⟩ } := ⟨_, rfl⟩
    rw [← hS3] at hs3
    have hn3 := hk3.hp HN2.out hne
    have hc3 := cells6 hs3.blk
    have e1 : S3.vs = S.vs := by rw [hS3]
    simp only [Cells6, e1] at hc3
    clear s0 s1 s2 s3 s4 s5 sz k0 k8 k9 kz b5
    obtain ⟨-, -, s2, -, -, -, sz, -, -, f2, -⟩ := hc3
    obtain ⟨k0, -, -, -, -, -, -, -, -, kz⟩ := cellsN hn3
    obtain ⟨w5, hw5⟩ : ∃ w5 : World, w5 = wc.alloc (.cells #[.int .i64 0, .int .i64 0, .int .i64 (C + 1), .slice S.vs.a S.vs.l.length S.vs.c] 87) := ⟨_, rfl⟩
    obtain ⟨br, hbr⟩ : ∃ br, br = wc.heap.size := ⟨_, rfl⟩
    have hb5 : Below wc.heap.size wc w5 := by rw [hw5]; exact below_new1 _ _
    have hn5 : w5.heap[br]? = some (.cells #[.int .i64 0, .int .i64 0, .int .i64 (C + 1), .slice S.vs.a S.vs.l.length S.vs.c] 87 (0, 0)) := by rw [hw5, hbr]; exact hp_alloc_new _ _
    have hvr := (hs3.below hb5).vr.row
    rw [e1] at hvr
    have hR5 : acct.RefAt wc w5 0 br ⟨0, 0, C + 1, S.vs.l.map lv⟩ := ⟨trivial, S.vs.a, S.vs.c, S.vs.l, hn5, hvr, rfl, fun x hx => by have := hs3.vb x (by rw [e1]; exact hx); exact this⟩
    have HFR := Lib.hid (acct.from_ok wc w5 0 br ⟨0, 0, C + 1, S.vs.l.map lv⟩ (C + 2) hR5 (by show (S.vs.l.map lv).length ≤ 16; rw [List.length_map]; exact h3))
    have HW5 := Lib.hid hw5
    have HBR := Lib.hid hbr
    have HB5 := Lib.hid hb5
    have HS3 := Lib.hid hs3
    have HK3 := Lib.hid ((Keep.of_below (S := fun k => k = sb) HB02.out).trans hk3)
    have HZ3 := Lib.hid hz3
    have HQ3 := Lib.hid hS3
    have y2 := cell_step s2 hb5
    have yz : sb < w5.heap.size := Nat.lt_of_lt_of_le sz hb5.size
    have yf := (kit.blk (hp_step hs3.blk hb5)).2.1 2
    clear hw5 hbr hb5 hn5 hvr hR5 hs3 hk3 hz3 hS3 HX hn3
    go_upto_region 19 with fail
    rw [← HW5.out, ← HBR.out]
    go_wp2_with fail
    refine HFR.out.mono ?_; rintro e w6 ⟨v6, rfl, ⟨a6, c6, xs6, rfl, hr6, hx6, hd6⟩, hb6⟩
    have hb36 := below_step HB5.out hb6
    obtain ⟨hS9, hK9⟩ := vs_fin HS3.out hb36 (own_mono hr6 HB5.out.size) hd6
    have HS9 := Lib.hid hS9
    have HK9 := Lib.hid (HK3.out.trans hK9)
    have HX6 := Lib.hid hx6
    have u2 := cell_step y2 hb6
    have uz : sb < w6.heap.size := Nat.lt_of_lt_of_le yz hb6.size
    have uf := (kit.blk (hp_step HS3.out.blk hb36)).2.1 2
    clear hr6 hx6 hd6 hb6 hb36 hS9 hK9 y2 yz yf s2 sz f2
    go_wp2_with fail
    go_ret
    refine ⟨rfl, ⟨⟨a6, c6, xs6⟩, ⟨a5, c5, zs ++ [n.e]⟩, HX6.out, ?_, ?_⟩, HK9.out⟩
    · show (zs ++ [n.e]).map le = _
      rw [List.map_append, HZ3.out]; rfl
    · have h9 := HS9.out
      rw [HQ3.out] at h9
      exact h9
end Go.Proofs.YtcaakiaenfkeaaaGreat.pesv
/-
  Ready writes in the member's own block alone: what it hands out stays.
-/
namespace Go.Proofs.YtcaakiaenfkeaaaGreat.perd
open Go.ChangeShapes Go.WideShapes Go.ChangeAt Go.RowKit
open Go.Proofs.YtcaakiaenfkeaaaGreat.kit Go.Proofs.YtcaakiaenfkeaaaGreat.mapkit Go.Proofs.YtcaakiaenfkeaaaGreat.byt Go.Proofs.YtcaakiaenfkeaaaGreat.own Go.Proofs.YtcaakiaenfkeaaaGreat.accd Go.Proofs.YtcaakiaenfkeaaaGreat.accb Go.Proofs.YtcaakiaenfkeaaaGreat.acce Go.Proofs.YtcaakiaenfkeaaaGreat.chd Go.Proofs.YtcaakiaenfkeaaaGreat.che Go.Proofs.YtcaakiaenfkeaaaGreat.ownr Go.Proofs.YtcaakiaenfkeaaaGreat.pep Go.Proofs.YtcaakiaenfkeaaaGreat.peb Go.Proofs.YtcaakiaenfkeaaaGreat.pem Go.Proofs.YtcaakiaenfkeaaaGreat.pen Go.Proofs.YtcaakiaenfkeaaaGreat.pes Go.Proofs.YtcaakiaenfkeaaaGreat.peq
set_option linter.unusedVariables false
set_option linter.unusedSimpArgs false
set_option maxHeartbeats 4000000
set_option maxRecDepth 100000

theorem clear_fin1 {w : World} {O : Owners} {i pb : Nat} {M : PM} (h : PeerAt w O i pb M) : Behind w O i pb (Sf i 1) (((((w.setCell ⟨pb, 53, none⟩ (.slice none 0 0)).setCell ⟨pb, 54, none⟩ (.slice none 0 0)).setCell ⟨pb, 55, none⟩ (.slice none 0 0)).setCell ⟨pb, 56, none⟩ (.int .i64 0)).setCell ⟨pb, 57, none⟩ (.slice none 0 0)) (PM.clear M) := by
  have b0 := h.blk
  have b1 := hp_set b0 53 (.slice none 0 0)
  have b2 := hp_set b1 54 (.slice none 0 0)
  have b3 := hp_set b2 55 (.slice none 0 0)
  have b4 := hp_set b3 56 (.int .i64 0)
  have b5 := hp_set b4 57 (.slice none 0 0)
  have F : Fr (Sf i 1) w O (((((w.setCell ⟨pb, 53, none⟩ (.slice none 0 0)).setCell ⟨pb, 54, none⟩ (.slice none 0 0)).setCell ⟨pb, 55, none⟩ (.slice none 0 0)).setCell ⟨pb, 56, none⟩ (.int .i64 0)).setCell ⟨pb, 57, none⟩ (.slice none 0 0)) O :=
    (((((Fr.refl (Sf i 1) h.clean).set (p := ⟨pb, 53, none⟩) (.inr (.inl h.tag)) b0 still_peer _).set (p := ⟨pb, 54, none⟩) (.inr (.inl h.tag)) b1 still_peer _).set (p := ⟨pb, 55, none⟩) (.inr (.inl h.tag)) b2 still_peer _).set (p := ⟨pb, 56, none⟩) (.inr (.inl h.tag)) b3 still_peer _).set (p := ⟨pb, 57, none⟩) (.inr (.inl h.tag)) b4 still_peer _
  have hP := h.parts.fr (g := fun j => j = 1) (fun _ hf => hf.elim) (fun j hj => by rintro (e | e) <;> exact hj (congrArg Prod.snd e)) (sf_ro h.me) F
  refine ⟨O, ⟨F.clean, h.me, b5, h.tag, ⟨fun _ => hP.acc (by decide), fun _ => hP.ent (by decide), fun _ => hP.opn (by decide), fun _ => hP.tdo (by decide), fun _ => ⟨row_nil _ _ _ _ _, by simp [PM.clear, sl0]⟩, fun _ => ⟨row_nil _ _ _ _ _, by simp [PM.clear, sl0]⟩, fun _ => ⟨row_nil _ _ _ _ _, by simp [PM.clear, sl0]⟩, fun j hj _ => hP.prm j hj (by omega), fun j hj _ => hP.box j hj (by omega), hP.img, rob_nil _⟩⟩, F⟩
theorem ready_rows (w : World) (O : Owners) (i pb : Nat) (M : PM) (h : PeerAt w O i pb M) :
    Calls Tryz.prog 9 #[.pointer (some ⟨pb, 0, none⟩)] w fun e w' => e = .returned (readyV M) ∧ Behind w O i pb (Sf i 1) w' (PM.clear M) := by
  have HP := Lib.hid h
  have x53 : w.cell? ⟨pb, 53, none⟩ = some (.slice M.nt.a M.nt.l.length M.nt.c) := (kit.blk h.blk).1 53
  have x54 : w.cell? ⟨pb, 54, none⟩ = some (.slice M.lt.a M.lt.l.length M.lt.c) := (kit.blk h.blk).1 54
  have x55 : w.cell? ⟨pb, 55, none⟩ = some (.slice M.ch.a M.ch.l.length M.ch.c) := (kit.blk h.blk).1 55
  have x56 : w.cell? ⟨pb, 56, none⟩ = some (.int .i64 M.ri) := (kit.blk h.blk).1 56
  have x57 : w.cell? ⟨pb, 57, none⟩ = some (.slice M.rm.a M.rm.l.length M.rm.c) := (kit.blk h.blk).1 57
  have f53 : w.frozen? ⟨pb, 53, none⟩ = false := (kit.blk h.blk).2.1 53
  have f54 : w.frozen? ⟨pb, 54, none⟩ = false := (kit.blk h.blk).2.1 54
  have f55 : w.frozen? ⟨pb, 55, none⟩ = false := (kit.blk h.blk).2.1 55
  have f56 : w.frozen? ⟨pb, 56, none⟩ = false := (kit.blk h.blk).2.1 56
  have f57 : w.frozen? ⟨pb, 57, none⟩ = false := (kit.blk h.blk).2.1 57
  have hpz := (kit.blk h.blk).2.2
  clear h
  go_enter Tryz.func9, Tryz.ntmps9
  go_wp2_with fail
  obtain ⟨w5, hw5⟩ : ∃ w5 : World, w5 = ((((w.setCell ⟨pb, 53, none⟩ (.slice none 0 0)).setCell ⟨pb, 54, none⟩ (.slice none 0 0)).setCell ⟨pb, 55, none⟩ (.slice none 0 0)).setCell ⟨pb, 56, none⟩ (.int .i64 0)).setCell ⟨pb, 57, none⟩ (.slice none 0 0) := ⟨_, rfl⟩
  obtain ⟨O5, P5, F5⟩ := clear_fin1 HP.out
  rw [← hw5] at P5 F5 ⊢
  have hs5 : w5.heap.size = w.heap.size := by rw [hw5, size_set, size_set, size_set, size_set, size_set]
  obtain ⟨X, hX⟩ : ∃ X : Obj, X = .cells #[.slice M.nt.a M.nt.l.length M.nt.c, .slice M.lt.a M.lt.l.length M.lt.c, .slice M.ch.a M.ch.l.length M.ch.c, .int .i64 M.ri, .slice M.rm.a M.rm.l.length M.rm.c] 40 := ⟨_, rfl⟩
  rw [← hX]
  have hn := hp_new (o := X) (hp_alloc_new w5 X)
  rw [hs5, hX] at hn
  rw [← hX] at hn
  have hq := (kit.blk (by rw [hn, hX] : ((w5.alloc X).alloc X).heap[w.heap.size]? = some (.cells #[.slice M.nt.a M.nt.l.length M.nt.c, .slice M.lt.a M.lt.l.length M.lt.c, .slice M.ch.a M.ch.l.length M.ch.c, .int .i64 M.ri, .slice M.rm.a M.rm.l.length M.rm.c] 40 (0, 0)))).1
  have n0 := hq 0
  have n1 := hq 1
  have n2 := hq 2
  have n3 := hq 3
  have n4 := hq 4
  have hbb : Below w5.heap.size w5 ((w5.alloc X).alloc X) := below_new2 _ _ _
  exact bodyPost_ret (v := readyV M) (by simp [results, Tryz.results9, go_sem, n0, n1, n2, n3, n4, readyV]) rfl ⟨rfl, O5, PeerAt.below P5 hbb, F5.trans (Fr.of_below P5.clean hbb)⟩
end Go.Proofs.YtcaakiaenfkeaaaGreat.perd
/-
  A group of one and what it has saved, in one memory: what holds between the rounds, and while its notes are put.
-/
namespace Go.Proofs.YtcaakiaenfkeaaaGreat.peos
open Go.ChangeShapes Go.WideShapes Go.ChangeAt Go.RowKit
open Go.Proofs.YtcaakiaenfkeaaaGreat.kit Go.Proofs.YtcaakiaenfkeaaaGreat.mapkit Go.Proofs.YtcaakiaenfkeaaaGreat.byt Go.Proofs.YtcaakiaenfkeaaaGreat.own Go.Proofs.YtcaakiaenfkeaaaGreat.accd Go.Proofs.YtcaakiaenfkeaaaGreat.accb Go.Proofs.YtcaakiaenfkeaaaGreat.acce Go.Proofs.YtcaakiaenfkeaaaGreat.chd Go.Proofs.YtcaakiaenfkeaaaGreat.che Go.Proofs.YtcaakiaenfkeaaaGreat.ownr Go.Proofs.YtcaakiaenfkeaaaGreat.pep Go.Proofs.YtcaakiaenfkeaaaGreat.peb Go.Proofs.YtcaakiaenfkeaaaGreat.pem Go.Proofs.YtcaakiaenfkeaaaGreat.pen Go.Proofs.YtcaakiaenfkeaaaGreat.pes Go.Proofs.YtcaakiaenfkeaaaGreat.peq Go.Proofs.YtcaakiaenfkeaaaGreat.pedr Go.Proofs.YtcaakiaenfkeaaaGreat.pelo Go.Proofs.YtcaakiaenfkeaaaGreat.penw Go.Proofs.YtcaakiaenfkeaaaGreat.pese Go.Proofs.YtcaakiaenfkeaaaGreat.pesv Go.Proofs.YtcaakiaenfkeaaaGreat.perd Go.Proofs.YtcaakiaenfkeaaaGreat.peaw Go.Proofs.YtcaakiaenfkeaaaGreat.peod
set_option linter.unusedVariables false
set_option linter.unusedSimpArgs false
set_option maxHeartbeats 4000000
set_option maxRecDepth 100000

/-- The member and what is saved, in one memory; N, C: notes and entries that were handed out. -/
structure Mid (W w : World) (O : Owners) (i pb j sb : Nat) (M : PM) (S : SvM) (N : Sl NtM) (C : Sl Et) : Prop where
  peer : PeerAt w O i pb M
  sav : SavAt w O j sb S
  ne : i ≠ j
  below : Below W.heap.size W w
  ro : ∀ k, k < W.heap.size → O k = ro
  nts : Row w O (i, 6) 51 16 N.a N.c N.l.length (N.l.flatMap NtM.cells) ∧ ∀ x ∈ N.l, RoN w x
  chs : RowEn w O (i, 8) C
theorem ro_mine {i : Nat} (h : i ≠ 0) : ¬ Mine i ro := fun e => h e.1.symm
theorem Mid.fr {W w w' : World} {O O' : Owners} {i pb j sb : Nat} {M : PM} {S : SvM} {N : Sl NtM} {C : Sl Et} (h : Mid W w O i pb j sb M S N C) (hb : Below w.heap.size w w') : Mid W w' O i pb j sb M S N C := by
  have F : Fr (fun _ => False) w O w' O := Fr.of_below h.peer.clean hb
  exact ⟨PeerAt.below h.peer hb, h.sav.below hb, h.ne, h.below.trans (Below.mono hb h.below.size), h.ro, ⟨h.nts.1.fr (fun x => x) F, fun x hx => (h.nts.2 x hx).fr F⟩, h.chs.fr (fun x => x) F⟩
/-- Behind a call that has written in the saved block alone. -/
theorem Mid.put {W w w' : World} {O : Owners} {i pb j sb : Nat} {M : PM} {S S' : SvM} {N : Sl NtM} {C : Sl Et} (h : Mid W w O i pb j sb M S N C) (hs : SavAt w' O j sb S') (hk : Keep (fun k => k = sb) w w') : Mid W w' O i pb j sb M S' N C := by
  have F := h.sav.frame hk
  have hne : ∀ k : Nat, ¬ (((i, k) : Nat × Nat) = (j, 1)) := fun k e => h.ne (congrArg Prod.fst e)
  have hr : ¬ (ownr.ro = ((j, 1) : Nat × Nat)) := fun e => h.sav.me (congrArg Prod.fst e).symm
  refine ⟨h.peer.fr hne hr F, hs, h.ne, h.below.trans (F.below h.below.size (fun k hk e => ?_)), h.ro, ⟨h.nts.1.fr (hne 6) F, fun x hx => (h.nts.2 x hx).fr F⟩, h.chs.fr (hne 8) F⟩
  rw [h.ro k hk] at e
  exact hr e
/-- Behind a call on the member. -/
theorem Mid.call {W w w' : World} {O O' : Owners} {i pb j sb : Nat} {M M' : PM} {S : SvM} {N : Sl NtM} {C : Sl Et} {T : Tag → Prop} (h : Mid W w O i pb j sb M S N C) (hp : PeerAt w' O' i pb M') (F : Fr T w O w' O') (hT : ∀ t, T t → Mine i t) : Mid W w' O' i pb j sb M' S M'.nt M'.ch := by
  have F := F.mono hT
  have hr := ro_mine h.peer.me
  refine ⟨hp, h.sav.fr F hr (fun e => h.ne e.1.symm), h.ne, h.below.trans (F.below h.below.size (fun k hk => by rw [h.ro k hk]; exact hr)), fun k hk => (F.own k (Nat.lt_of_lt_of_le hk h.below.size)).trans (h.ro k hk), hp.parts.nts (fun x => x), hp.parts.chs (fun x => x)⟩
/-- Behind Ready: the rows that it has handed out stay. -/
theorem Mid.ready {W w w' : World} {O O' : Owners} {i pb j sb : Nat} {M : PM} {S : SvM} {N : Sl NtM} {C : Sl Et} (h : Mid W w O i pb j sb M S N C) (hp : PeerAt w' O' i pb (PM.clear M)) (F : Fr (Sf i 1) w O w' O') : Mid W w' O' i pb j sb (PM.clear M) S M.nt M.ch := by
  have h2 := h.call hp F sf_mine
  have hn := h.peer.parts.nts (fun x => x)
  refine ⟨h2.peer, h2.sav, h2.ne, h2.below, h2.ro, ⟨hn.1.fr ?_ F, fun x hx => (hn.2 x hx).fr F⟩, (h.peer.parts.chs (fun x => x)).fr ?_ F⟩
  · rintro (e | e) <;> exact absurd (show (6 : Nat) = 1 from congrArg Prod.snd e) (by decide)
  · rintro (e | e) <;> exact absurd (show (8 : Nat) = 1 from congrArg Prod.snd e) (by decide)
/-- The sixteen cells of a note in a row. -/
def Cells16 (w : World) (g o : Nat) (n : NtM) : Prop :=
  w.cell? ⟨g, o, none⟩ = some (.int .i64 n.kind) ∧ w.cell? ⟨g, o + 1, none⟩ = some (.int .i64 0) ∧ w.cell? ⟨g, o + 2, none⟩ = some (.int .i64 n.b1) ∧ w.cell? ⟨g, o + 3, none⟩ = some (.int .i64 n.b2) ∧
  w.cell? ⟨g, o + 4, none⟩ = some (.int .i64 n.v.s) ∧ w.cell? ⟨g, o + 5, none⟩ = some (.int .i64 n.v.r) ∧ w.cell? ⟨g, o + 6, none⟩ = some (.int .i64 n.v.n) ∧ w.cell? ⟨g, o + 7, none⟩ = some (.slice n.v.a n.v.l.length n.v.c) ∧
  w.cell? ⟨g, o + 8, none⟩ = some (.int .i64 n.e.s) ∧ w.cell? ⟨g, o + 9, none⟩ = some (.slice n.e.a n.e.l.length n.e.c) ∧ w.cell? ⟨g, o + 10, none⟩ = some (.int .i64 0) ∧ w.cell? ⟨g, o + 11, none⟩ = some (.string (ByteArray.mk #[])) ∧
  w.cell? ⟨g, o + 12, none⟩ = some (.int .i64 0) ∧ w.cell? ⟨g, o + 13, none⟩ = some (.int .i64 0) ∧ w.cell? ⟨g, o + 14, none⟩ = some (.int .i64 0) ∧ w.cell? ⟨g, o + 15, none⟩ = some (.int .i64 0)
theorem note_cells {w : World} {O : Owners} {t : Tag} {N : Sl NtM} (h : Row w O t 51 16 N.a N.c N.l.length (N.l.flatMap NtM.cells)) (k : Nat) (hk : k < N.l.length) : ∃ g off, N.a = some ⟨g, off, none⟩ ∧ g < w.heap.size ∧ Cells16 w g (off + k * 16) N.l[k] := by
  rcases own_rows ncells_len h.row with e | ⟨b, off, e, hz, h3⟩
  · have : N.l = [] := by simpa using e
    rw [this] at hk; simp at hk
  · have hi : k < (N.l.map NtM.cells).length := by simpa using hk
    refine ⟨b, off, e, hz, ?_⟩
    have hc : ∀ m, m < 16 → w.cell? ⟨b, off + k * 16 + m, none⟩ = (N.l[k].cells)[m]? := by
      intro m hm
      have := h3 k hi m hm
      simp only [List.getElem_map] at this
      exact this
    exact ⟨hc 0 (by decide), hc 1 (by decide), hc 2 (by decide), hc 3 (by decide), hc 4 (by decide), hc 5 (by decide), hc 6 (by decide), hc 7 (by decide), hc 8 (by decide), hc 9 (by decide), hc 10 (by decide), hc 11 (by decide), hc 12 (by decide), hc 13 (by decide), hc 14 (by decide), hc 15 (by decide)⟩
theorem ent_cells {w : World} {O : Owners} {t : Tag} {C : Sl Et} (h : RowEn w O t C) (k : Nat) (hk : k < C.l.length) : ∃ g off, C.a = some ⟨g, off, none⟩ ∧ g < w.heap.size ∧ w.cell? ⟨g, off + k * 2, none⟩ = some (.int .i64 C.l[k].s) ∧ w.cell? ⟨g, off + k * 2 + 1, none⟩ = some (.slice C.l[k].a C.l[k].l.length C.l[k].c) := by
  rcases own_rows ecells_len h.row.row with e | ⟨b, off, e, hz, h3⟩
  · have : C.l = [] := by simpa using e
    rw [this] at hk; simp at hk
  · have hi : k < (C.l.map Et.cells).length := by simpa using hk
    have e0 := h3 k hi 0 (by omega)
    have e1 := h3 k hi 1 (by omega)
    simp only [List.getElem_map, Nat.add_zero] at e0 e1
    exact ⟨b, off, e, hz, e0.trans rfl, e1.trans rfl⟩

/-- Draw of a group of one that does not lead. -/
theorem draw_go {W w : World} {O : Owners} {i pb j sb n : Nat} {M : PM} {S : SvM} {N : Sl NtM} {C : Sl Et} {B : Int} (h : Mid W w O i pb j sb M S N C) (hd : Dt M.dat n B) (hn : n ≤ 1000) (hB : 0 ≤ B ∧ B ≤ 1000) :
    Calls Tryz.prog 8 #[.pointer (some ⟨pb, 0, none⟩)] w fun e w' => e = .returned (.int .i64 0) ∧ ∃ M' O', M'.dat = M.dat.drawn ∧ Mid W w' O' i pb j sb M' S M'.nt M'.ch := by
  have hnode : M.node = 1 := hd.one.nd
  have hr : Rnd M := by
    obtain ⟨⟨h1, h2⟩, h3, h4⟩ := hd.bal
    have h1 : 0 ≤ M.A.r := h1
    have h2 : M.A.r ≤ B := h2
    have h3 : 0 ≤ M.s1 := h3
    have h4 : M.s1 ≤ B := h4
    exact ⟨by omega, by omega, by omega, by omega⟩
  refine (draw_ok w O i pb M h.peer hr (by rw [hnode]; decide) (hd.may hn)).mono ?_
  rintro e w' ⟨rfl, M', hM', O', hP, hF⟩
  have hc := hd.com
  rw [draw_one hd.one (by omega) (by omega)] at hM'
  exact ⟨rfl, M', O', hM', h.call hP hF (fun _ x => x)⟩
/-- Propose of a value that may be. -/
theorem send_go {W w : World} {O : Owners} {i pb j sb n : Nat} {M : PM} {S : SvM} {N : Sl NtM} {C : Sl Et} {B : Int} {b : Sl Nat} (h : Mid W w O i pb j sb M S N C) (hd : Dt M.dat n B) (hn : n ≤ 1000) (hb : RdB w b) (h1 : 1 ≤ b.l.length) (h2 : b.l.length ≤ 2048) :
    Calls Tryz.prog 7 #[.pointer (some ⟨pb, 0, none⟩), .slice b.a b.l.length b.c] w fun e w' => e = .returned (.int .i64 (if M.leads = true then 0 else 130)) ∧ ∃ M' O', M'.dat = (if M.leads = true then M.dat.sent b.l else M.dat) ∧ Mid W w' O' i pb j sb M' S M'.nt M'.ch := by
  obtain ⟨g1, g2, g3, g4⟩ := pdok hd hn hb.byt
  have g3 : 0 ≤ M.next := g3
  have g4 : M.next ≤ 100000 := g4
  refine (send_ok w O i pb M b h.peer hb g1 ⟨by omega, by omega⟩ g2).mono ?_
  rintro e w' ⟨rfl, M', hM', O', hP, hF⟩
  have hc := hd.com
  cases hl : M.leads with
  | true =>
    obtain ⟨e1, e2⟩ := send_one (hd.lead hl).1 h1 h2 (by omega) (by omega)
    rw [e1]
    rw [e2] at hM'
    rw [if_pos rfl, if_pos rfl]
    exact ⟨rfl, M', O', hM', h.call hP hF (fun _ x => x)⟩
  | false =>
    have e1 : M.dat.proposeE b.l = 130 := by
      unfold PD.proposeE
      rw [if_neg (by omega), if_pos (show M.dat.leads = false from hl)]
    have e2 : M.dat.proposeS b.l = M.dat := by unfold PD.proposeS; rw [if_pos (by rw [e1]; decide)]
    rw [e1]
    rw [e2] at hM'
    rw [if_neg (by simp), if_neg (by simp)]
    exact ⟨rfl, M', O', hM', h.call hP hF (fun _ x => x)⟩
theorem ready_go {W w : World} {O : Owners} {i pb j sb : Nat} {M : PM} {S : SvM} {N : Sl NtM} {C : Sl Et} (h : Mid W w O i pb j sb M S N C) :
    Calls Tryz.prog 9 #[.pointer (some ⟨pb, 0, none⟩)] w fun e w' => e = .returned (readyV M) ∧ ∃ O', Mid W w' O' i pb j sb (PM.clear M) S M.nt M.ch := by
  refine (ready_rows w O i pb M h.peer).mono ?_
  rintro e w' ⟨rfl, O', hP, hF⟩
  exact ⟨rfl, O', h.ready hP hF⟩
theorem commit_go {W w : World} {O : Owners} {i pb j sb n : Nat} {M : PM} {S : SvM} {N : Sl NtM} {C : Sl Et} {B : Int} (h : Mid W w O i pb j sb M S N C) (hd : Dt M.dat n B) (hn : n ≤ 1000) :
    Calls Tryz.prog 12 #[.pointer (some ⟨pb, 0, none⟩)] w fun e w' => e = .returned (.int .i64 n) ∧ Below w.heap.size w w' := by
  have hi : M.index = 0 := hd.one.ix
  have hc : M.index + ((M.en.l.map le).length : Int) = n := hd.com
  rw [List.length_map] at hc
  have h2 := commit_ok w O i pb M h.peer (by rw [hi]; decide) (by omega)
  rw [hc] at h2
  exact h2
/-- A number that nobody has. -/
theorem fresh_is {w : World} {O : Owners} (h : ownr.Clean w O) : ∃ i, Fresh O i := by
  have hb : ∀ n, ∃ m, ∀ k, k < n → (O k).1 ≤ m := by
    intro n
    induction n with
    | zero => exact ⟨0, fun k hk => absurd hk (by omega)⟩
    | succ n ih =>
      obtain ⟨m, hm⟩ := ih
      refine ⟨max m (O n).1, fun k hk => ?_⟩
      rcases Nat.lt_or_ge k n with h1 | h1
      · have := hm k h1; omega
      · have : k = n := by omega
        subst this; omega
  obtain ⟨m, hm⟩ := hb w.heap.size
  refine ⟨m + 1, by omega, fun k e => ?_⟩
  rcases Nat.lt_or_ge k w.heap.size with h1 | h1
  · have := hm k h1; omega
  · rw [h k h1] at e
    exact absurd e (by show ¬ (0 : Nat) = m + 1; omega)
theorem _root_.Go.Proofs.YtcaakiaenfkeaaaGreat.pesv.SavAt.rds {w : World} {O : Owners} {j sb n : Nat} {S : SvM} {B : Int} (h : SavAt w O j sb S) (hs : SvOk S n B) (hn : n ≤ 1000) : RdS w S :=
  ⟨⟨⟨0, S.vs.a, S.vs.c, rfl, h.vr.row⟩, by rw [hs.vs]; simp⟩, by rw [hs.vs]; simp, ⟨own_rows ecells_len h.er.row, fun e he => ⟨(h.eb e he).lie, (h.eb e he).nil, (h.eb e he).len⟩, by rw [hs.len]; omega⟩, h.eb, h.im⟩
/-- New behind a fall. -/
theorem new_go {W w : World} {O : Owners} {i pb j sb n : Nat} {M : PM} {S : SvM} {N : Sl NtM} {C : Sl Et} {B : Int} (h : Mid W w O i pb j sb M S N C) (hs : SvOk S n B) (hn : n ≤ 1000) :
    Calls Tryz.prog 4 #[.int .i64 1, .int .i64 1, S.val] w fun e w' => ∃ pb', e = .returned (.tuple #[.pointer (some ⟨pb', 0, none⟩), .int .i64 0]) ∧ ∃ (M' : PM) (O' : Owners) (i' : Nat), M'.dat = newD 1 1 S ∧ Mid W w' O' i' pb' j sb M' S M'.nt M'.ch := by
  obtain ⟨i', hi'⟩ := fresh_is h.peer.clean
  refine (new_ok w O i' 1 1 S h.peer.clean hi' (h.sav.rds hs hn) (hs.oks hn) hs.ix).mono ?_
  rintro e w' ⟨pb', M', O', rfl, hP, hF, hM, -⟩
  refine ⟨pb', rfl, M', O', i', hM, hP, h.sav.fr hF (fun x => x) (fun x => x), fun e => hi'.2 sb (by rw [h.sav.tag, e]), h.below.trans (hF.below h.below.size (fun _ _ x => x)), fun k hk => (hF.own k (Nat.lt_of_lt_of_le hk h.below.size)).trans (h.ro k hk), hP.parts.nts (fun x => x), hP.parts.chs (fun x => x)⟩
end Go.Proofs.YtcaakiaenfkeaaaGreat.peos
/-
  A group of one: its notes are put.
-/
namespace Go.Proofs.YtcaakiaenfkeaaaGreat.peos
open Go.ChangeShapes Go.WideShapes Go.ChangeAt Go.RowKit
open Go.Proofs.YtcaakiaenfkeaaaGreat.kit Go.Proofs.YtcaakiaenfkeaaaGreat.mapkit Go.Proofs.YtcaakiaenfkeaaaGreat.byt Go.Proofs.YtcaakiaenfkeaaaGreat.own Go.Proofs.YtcaakiaenfkeaaaGreat.accd Go.Proofs.YtcaakiaenfkeaaaGreat.accb Go.Proofs.YtcaakiaenfkeaaaGreat.acce Go.Proofs.YtcaakiaenfkeaaaGreat.chd Go.Proofs.YtcaakiaenfkeaaaGreat.che Go.Proofs.YtcaakiaenfkeaaaGreat.ownr Go.Proofs.YtcaakiaenfkeaaaGreat.pep Go.Proofs.YtcaakiaenfkeaaaGreat.peb Go.Proofs.YtcaakiaenfkeaaaGreat.pem Go.Proofs.YtcaakiaenfkeaaaGreat.pen Go.Proofs.YtcaakiaenfkeaaaGreat.pes Go.Proofs.YtcaakiaenfkeaaaGreat.peq Go.Proofs.YtcaakiaenfkeaaaGreat.pedr Go.Proofs.YtcaakiaenfkeaaaGreat.pelo Go.Proofs.YtcaakiaenfkeaaaGreat.penw Go.Proofs.YtcaakiaenfkeaaaGreat.pese Go.Proofs.YtcaakiaenfkeaaaGreat.pesv Go.Proofs.YtcaakiaenfkeaaaGreat.perd Go.Proofs.YtcaakiaenfkeaaaGreat.peaw Go.Proofs.YtcaakiaenfkeaaaGreat.peod
set_option linter.unusedVariables false
set_option linter.unusedSimpArgs false
set_option maxHeartbeats 4000000
set_option maxRecDepth 100000

/-- While the vote is saved, and the entry is not. -/
structure SvV (S : SvM) (n : Nat) (B : Int) (v : V4) : Prop where
  ix : S.ix = 0
  im : S.im.l = []
  vs : S.vs.l.map lv = [v]
  len : S.en.l.length = n
  ent : GoodE (S.en.l.map le)
  pr : (S.p1 = 0 ∧ S.p2 = 0) ∨ (1 ≤ S.p1 ∧ S.p2 = 1)
  bnd : 0 ≤ S.p1 ∧ S.p1 ≤ B
theorem prom_pr {S : SvM} {b : Int × Int} {B : Int} (hp : (S.p1 = 0 ∧ S.p2 = 0) ∨ (1 ≤ S.p1 ∧ S.p2 = 1)) (hb : 0 ≤ S.p1 ∧ S.p1 ≤ B) (h1 : 1 ≤ b.1) (h2 : b.1 ≤ B) (h3 : b.2 = 1) :
    (((S.prom b).p1 = 0 ∧ (S.prom b).p2 = 0) ∨ (1 ≤ (S.prom b).p1 ∧ (S.prom b).p2 = 1)) ∧ 0 ≤ (S.prom b).p1 ∧ (S.prom b).p1 ≤ B := by
  unfold SvM.prom
  split
  · exact ⟨.inr ⟨h1, h3⟩, by dsimp only; omega, h2⟩
  · exact ⟨hp, hb⟩
theorem prom_rest (S : SvM) (b : Int × Int) : (S.prom b).ix = S.ix ∧ (S.prom b).im = S.im ∧ (S.prom b).vs = S.vs ∧ (S.prom b).en = S.en := by
  unfold SvM.prom
  split <;> exact ⟨rfl, rfl, rfl, rfl⟩
/-- A promise is put. -/
theorem put1 {W w : World} {O : Owners} {i pb j sb n : Nat} {M : PM} {S : SvM} {N : Sl NtM} {C : Sl Et} {B : Int} {x : NtM} {b : Bl} (h : Mid W w O i pb j sb M S N C) (hs : SvOk S n B) (hn : n ≤ 1000) (hx : x.dat = .prom b) (h1 : 1 ≤ b.1) (h2 : b.1 ≤ B) (h3 : b.2 = 1) :
    Calls Tryz.prog 10 #[.pointer (some ⟨sb, 0, none⟩), nval x] w fun e w' => e = .returned (.bool true) ∧ Keep (fun k => k = sb) w w' ∧ ∃ S', Mid W w' O i pb j sb M S' N C ∧ SvOk S' n B := by
  have hk : x.kind = 1 := congrArg Nt.kind hx
  have hb : (x.b1, x.b2) = b := congrArg Nt.b hx
  refine (put_prom w O j sb S x h.sav hk (by rw [hs.ix]; decide) (by rw [hs.len]; omega)).mono ?_
  rintro e w' ⟨rfl, hs', hK⟩
  rw [hb] at hs'
  obtain ⟨q1, q2⟩ := prom_pr hs.pr hs.bnd h1 h2 h3
  obtain ⟨r1, r2, r3, r4⟩ := prom_rest S b
  exact ⟨rfl, hK, _, h.put hs' hK, ⟨r1.trans hs.ix, by rw [r2]; exact hs.im, by rw [r3]; exact hs.vs, by rw [r4]; exact hs.len, by rw [r4]; exact hs.ent, q1, q2⟩⟩
/-- A vote is put. -/
theorem put2 {W w : World} {O : Owners} {i pb j sb n : Nat} {M : PM} {S : SvM} {N : Sl NtM} {C : Sl Et} {B : Int} {x : NtM} {v : V4} (h : Mid W w O i pb j sb M S N C) (hs : SvOk S n B) (hn : n ≤ 1000) (hr : RoN w x) (hx : x.dat = .vote v) (hv : v.s = (n : Int) + 1) (h1 : 1 ≤ v.r) (h2 : v.r ≤ B) (h3 : v.n = 1) (hd : v.l.length ≤ 2048) :
    Calls Tryz.prog 10 #[.pointer (some ⟨sb, 0, none⟩), nval x] w fun e w' => e = .returned (.bool true) ∧ Keep (fun k => k = sb) w w' ∧ ∃ S', Mid W w' O i pb j sb M S' N C ∧ SvV S' n B v := by
  have hk : x.kind = 2 := congrArg Nt.kind hx
  have hb : lv x.v = v := congrArg Nt.v hx
  have b1 : x.v.s = v.s := congrArg V4.s hb
  have b2 : x.v.r = v.r := congrArg V4.r hb
  have b3 : x.v.n = v.n := congrArg V4.n hb
  have hE : accE x.v.r x.v.n (S.ix + S.en.l.length + 1) (lv x.v) = 0 := by
    rw [b2, b3, hb, hs.ix, hs.len, show (0 : Int) + (n : Int) + 1 = v.s by omega]
    exact accE_one (by unfold acca.realB; rw [h3]; simp; exact h1) hd
  refine (put_vote w O j sb S x h.sav hk (by rw [hs.ix, hs.len]; omega) (by rw [hs.vs]; decide) (by rw [hs.ix, hs.len, b1]; omega) hE hr.v).mono ?_
  rintro e w' ⟨rfl, ⟨vs, hvs, hs'⟩, hK⟩
  have hvs : vs.l.map lv = [v] := by rw [hvs, hs.vs, hb]; rfl
  unfold SvM.vote at hs'
  obtain ⟨q1, q2⟩ := prom_pr (S := { S with vs := vs }) (b := (x.v.r, x.v.n)) hs.pr hs.bnd (by rw [b2]; exact h1) (by rw [b2]; exact h2) (by rw [b3]; exact h3)
  obtain ⟨r1, r2, r3, r4⟩ := prom_rest { S with vs := vs } (x.v.r, x.v.n)
  exact ⟨rfl, hK, _, h.put hs' hK, ⟨r1.trans hs.ix, by rw [r2]; exact hs.im, by rw [r3]; exact hvs, by rw [r4]; exact hs.len, by rw [r4]; exact hs.ent, q1, q2⟩⟩
/-- An entry is put. -/
theorem put3 {W w : World} {O : Owners} {i pb j sb n : Nat} {M : PM} {S : SvM} {N : Sl NtM} {C : Sl Et} {B : Int} {x : NtM} {v : V4} (h : Mid W w O i pb j sb M S N C) (hs : SvV S n B v) (hn : n ≤ 1000) (hr : RoN w x) (hx : x.dat = .entry v.s v.l) (hv : v.s = (n : Int) + 1) (hd : v.l.length ≤ 2048) :
    Calls Tryz.prog 10 #[.pointer (some ⟨sb, 0, none⟩), nval x] w fun e w' => e = .returned (.bool true) ∧ Keep (fun k => k = sb) w w' ∧ ∃ S', Mid W w' O i pb j sb M S' N C ∧ SvOk S' (n + 1) B := by
  have hk : x.kind = 3 := congrArg Nt.kind hx
  have hb : le x.e = (v.s, v.l) := congrArg Nt.e hx
  have b1 : x.e.s = v.s := congrArg Prod.fst hb
  have b2 : x.e.l = v.l := congrArg Prod.snd hb
  have hvl : S.vs.l.length = 1 := by have h := congrArg List.length hs.vs; rw [List.length_map] at h; exact h
  refine (put_entry w O j sb S x h.sav hk (by rw [hs.ix, hs.len]; omega) (by rw [hs.len]; omega) (by rw [hvl]; decide) (by rw [hs.ix, hs.len, b1]; omega) (fun e he => by have := goodE_len hs.ent e he; omega) hr.e).mono ?_
  rintro e w' ⟨rfl, ⟨vs, en, hvs, hen, hs'⟩, hK⟩
  have hvs0 : vs.l = [] := by
    have h2 : vs.l.map lv = [] := by
      rw [hvs, hs.vs, hs.ix, hs.len]
      unfold from4
      simp
      omega
    simpa using h2
  have hen2 : en.l.map le = S.en.l.map le ++ [(((S.en.l.map le).length : Int) + 1, v.l)] := by rw [hen, b1, b2, List.length_map, hs.len, hv]
  have hel : en.l.length = n + 1 := by
    have h2 := congrArg List.length hen
    rw [List.length_map, List.length_append, List.length_map, hs.len] at h2
    exact h2
  exact ⟨rfl, hK, _, h.put hs' hK, ⟨hs.ix, hs.im, hvs0, hel, by show GoodE (en.l.map le); rw [hen2]; exact goodE_snoc hs.ent hd, hs.pr, hs.bnd⟩⟩
/-- What is saved when k of the two notes are put. -/
def SvK (S : SvM) (n : Nat) (B : Int) (v : V4) (k : Nat) : Prop := if k = 0 then SvOk S n B else if k = 1 then SvV S n B v else SvOk S (n + 1) B
theorem putK {W w : World} {O : Owners} {i pb j sb n : Nat} {M : PM} {S : SvM} {N : Sl NtM} {C : Sl Et} {B : Int} {v : V4} {k : Nat} (h : Mid W w O i pb j sb M S N C) (hs : SvK S n B v k) (hn : n ≤ 1000) (hN : N.l.map NtM.dat = [.vote v, .entry v.s v.l]) (hk : k < N.l.length) (hv : v.s = (n : Int) + 1) (h1 : 1 ≤ v.r) (h2 : v.r ≤ B) (h3 : v.n = 1) (hd : v.l.length ≤ 2048) :
    Calls Tryz.prog 10 #[.pointer (some ⟨sb, 0, none⟩), nval N.l[k]] w fun e w' => e = .returned (.bool true) ∧ Keep (fun k => k = sb) w w' ∧ ∃ S', Mid W w' O i pb j sb M S' N C ∧ SvK S' n B v (k + 1) := by
  have hl : N.l.length = 2 := by have h := congrArg List.length hN; rw [List.length_map] at h; exact h
  have hro := h.nts.2 _ (List.getElem_mem hk)
  have hdat : (N.l.map NtM.dat)[k]? = some (N.l[k]).dat := by simp [hk]
  rw [hN] at hdat
  match k, hk, hs, hdat, hro with
  | 0, hk, hs, hdat, hro =>
    refine (put2 h hs hn hro (by simpa using hdat.symm) hv h1 h2 h3 hd).mono ?_
    rintro e w' ⟨rfl, hK, S', hm, hs'⟩
    exact ⟨rfl, hK, S', hm, hs'⟩
  | 1, hk, hs, hdat, hro =>
    refine (put3 h hs hn hro (by simpa using hdat.symm) hv hd).mono ?_
    rintro e w' ⟨rfl, hK, S', hm, hs'⟩
    exact ⟨rfl, hK, S', hm, hs'⟩
  | k + 2, hk, _, _, _ => omega
theorem putD {W w : World} {O : Owners} {i pb j sb n : Nat} {M : PM} {S : SvM} {N : Sl NtM} {C : Sl Et} {B : Int} {b : Bl} {k : Nat} (h : Mid W w O i pb j sb M S N C) (hs : SvOk S n B) (hn : n ≤ 1000) (hN : N.l.map NtM.dat = [.prom b]) (hk : k < N.l.length) (h1 : 1 ≤ b.1) (h2 : b.1 ≤ B) (h3 : b.2 = 1) :
    Calls Tryz.prog 10 #[.pointer (some ⟨sb, 0, none⟩), nval N.l[k]] w fun e w' => e = .returned (.bool true) ∧ Keep (fun k => k = sb) w w' ∧ ∃ S', Mid W w' O i pb j sb M S' N C ∧ SvOk S' n B := by
  have hl : N.l.length = 1 := by have h := congrArg List.length hN; rw [List.length_map] at h; exact h
  have hdat : (N.l.map NtM.dat)[k]? = some (N.l[k]).dat := by simp [hk]
  obtain rfl : k = 0 := by omega
  rw [hN] at hdat
  exact put1 h hs hn (by simpa using hdat.symm) h1 h2 h3
/-- What Ready tells: the letters are none. -/
def tellV (N : Sl NtM) (la : Option Addr) (lc : Nat) (C : Sl Et) (ri : Int) (xa : Option Addr) (xl xc : Nat) : Value := .agg #[.slice N.a N.l.length N.c, .slice la 0 lc, .slice C.a C.l.length C.c, .int .i64 ri, .slice xa xl xc]
theorem ready_tells {W w : World} {O : Owners} {i pb j sb : Nat} {M : PM} {S : SvM} {N : Sl NtM} {C : Sl Et} (h : Mid W w O i pb j sb M S N C) (hl : M.dat.letters = []) :
    Calls Tryz.prog 9 #[.pointer (some ⟨pb, 0, none⟩)] w fun e w' => (∃ la lc ri xa xl xc, e = .returned (tellV M.nt la lc M.ch ri xa xl xc)) ∧ ∃ O', Mid W w' O' i pb j sb (PM.clear M) S M.nt M.ch := by
  have hl0 : M.lt.l.length = 0 := by
    have h2 : M.lt.l.map LtM.dat = [] := hl
    have h3 := congrArg List.length h2
    rw [List.length_map] at h3
    exact h3
  refine (ready_go h).mono ?_
  rintro e w' ⟨rfl, O', hm⟩
  refine ⟨⟨M.lt.a, M.lt.c, M.ri, M.rm.a, M.rm.l.length, M.rm.c, ?_⟩, O', hm⟩
  unfold readyV tellV
  rw [hl0]
theorem ready_drawn {W w : World} {O : Owners} {i pb j sb n : Nat} {M : PM} {S : SvM} {N : Sl NtM} {C : Sl Et} {B : Int} {P : PD} (h : Mid W w O i pb j sb M S N C) (hd : Dt P n B) (hB : 0 ≤ B) (hM : M.dat = P.drawn) :
    Calls Tryz.prog 9 #[.pointer (some ⟨pb, 0, none⟩)] w fun e w' => ∃ (N : Sl NtM) (la : Option Addr) (lc : Nat) (C : Sl Et) (ri : Int) (xa : Option Addr) (xl xc : Nat), e = .returned (tellV N la lc C ri xa xl xc) ∧ N.l.map NtM.dat = [.prom P.nextBal] ∧ ∃ O' M', M'.leads = true ∧ Mid W w' O' i pb j sb M' S N C ∧ Dt M'.dat n (B + 1) := by
  refine (ready_tells h (by rw [hM]; exact hd.lt)).mono ?_
  rintro e w' ⟨⟨la, lc, ri, xa, xl, xc, rfl⟩, O', hm⟩
  have hn : M.nt.l.map NtM.dat = P.drawn.notes := congrArg PD.notes hM
  refine ⟨M.nt, la, lc, M.ch, ri, xa, xl, xc, rfl, ?_, O', PM.clear M, ?_, hm, ?_⟩
  · rw [hn]
    show P.notes ++ [_] = _
    rw [hd.nt]; rfl
  · have : M.leads = P.drawn.leads := congrArg PD.leads hM
    exact this
  · have := dt_draw hd hB
    rw [← hM] at this
    exact this
theorem ready_sent {W w : World} {O : Owners} {i pb j sb n : Nat} {M : PM} {S : SvM} {N : Sl NtM} {C : Sl Et} {B : Int} {P : PD} {d : List Nat} (h : Mid W w O i pb j sb M S N C) (hd : Dt P n B) (hL : P.leads = true) (hM : M.dat = P.sent d) :
    Calls Tryz.prog 9 #[.pointer (some ⟨pb, 0, none⟩)] w fun e w' => ∃ (N : Sl NtM) (la : Option Addr) (lc : Nat) (C : Sl Et) (ri : Int) (xa : Option Addr) (xl xc : Nat), e = .returned (tellV N la lc C ri xa xl xc) ∧ N.l.map NtM.dat = [.vote ⟨n + 1, P.A.r, P.A.n, d⟩, .entry (n + 1) d] ∧ C.l.map le = [((n : Int) + 1, d)] ∧ ∃ O' M', M'.leads = true ∧ Mid W w' O' i pb j sb M' S N C ∧ Dt M'.dat (n + 1) B := by
  refine (ready_tells h (by rw [hM]; exact hd.lt)).mono ?_
  rintro e w' ⟨⟨la, lc, ri, xa, xl, xc, rfl⟩, O', hm⟩
  have hn : M.nt.l.map NtM.dat = (P.sent d).notes := congrArg PD.notes hM
  have hc : M.ch.l.map le = (P.sent d).chosen := congrArg PD.chosen hM
  refine ⟨M.nt, la, lc, M.ch, ri, xa, xl, xc, rfl, ?_, ?_, O', PM.clear M, ?_, hm, ?_⟩
  · rw [hn]
    show P.notes ++ [.vote ⟨P.commit + 1, _, _, d⟩, .entry (P.commit + 1) d] = _
    rw [hd.nt, hd.com]; rfl
  · rw [hc]
    show P.chosen ++ [(P.commit + 1, d)] = _
    rw [hd.ch, hd.com]; rfl
  · have : M.leads = (P.sent d).leads := congrArg PD.leads hM
    rw [show (PM.clear M).leads = M.leads from rfl, this]
    exact hL
  · have := dt_sent hd hL d
    rw [← hM] at this
    exact this
theorem ready_new {W w : World} {O : Owners} {i pb j sb n : Nat} {M : PM} {S : SvM} {N : Sl NtM} {C : Sl Et} {B : Int} (h : Mid W w O i pb j sb M S N C) (hs : SvOk S n B) (hM : M.dat = newD 1 1 S) :
    Calls Tryz.prog 9 #[.pointer (some ⟨pb, 0, none⟩)] w fun e w' => ∃ (N : Sl NtM) (la : Option Addr) (lc : Nat) (C : Sl Et) (ri : Int) (xa : Option Addr) (xl xc : Nat), e = .returned (tellV N la lc C ri xa xl xc) ∧ C.l.length = n ∧ ∃ O' M', Mid W w' O' i pb j sb M' S N C ∧ Dt M'.dat n B := by
  refine (ready_tells h (by rw [hM]; rfl)).mono ?_
  rintro e w' ⟨⟨la, lc, ri, xa, xl, xc, rfl⟩, O', hm⟩
  have hc : M.ch.l.map le = (newD 1 1 S).chosen := congrArg PD.chosen hM
  refine ⟨M.nt, la, lc, M.ch, ri, xa, xl, xc, rfl, ?_, O', PM.clear M, hm, ?_⟩
  · have h2 := congrArg List.length hc
    rw [List.length_map] at h2
    rw [h2]
    show (S.en.l.map le).length = n
    rw [List.length_map, hs.len]
  · have := dt_new hs
    rw [← hM] at this
    exact this
end Go.Proofs.YtcaakiaenfkeaaaGreat.peos
