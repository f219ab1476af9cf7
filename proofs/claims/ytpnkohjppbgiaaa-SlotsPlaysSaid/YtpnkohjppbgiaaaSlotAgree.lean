/-
  agree: a log tells what the document's has (printed by wip/mkagree.py).
-/
import Derived.Test.YtpnkohjppbgiaaaSlotPlain
import Derived.Deep.RegionHeld3
import Derived.BigQuiet
namespace Go.Proofs.Ytpnkohjppbgiaaa.slotagree
open Go.ChangeShapes Go.WideShapes Go.ChangeAt Go.RowKit
open Go.Proofs.Ytpnkohjppbgiaaa.kit Go.Proofs.Ytpnkohjppbgiaaa.logs Go.Proofs.Ytpnkohjppbgiaaa.slotref Go.Proofs.Ytpnkohjppbgiaaa.slotplain
set_option linter.unusedVariables false
set_option linter.unusedSimpArgs false
set_option maxHeartbeats 2000000
set_option maxRecDepth 100000

def RowsIn (w : World) (a : Option Addr) (l : HL) : Prop := ∀ k (hk : k < l.length), ∃ g, a = some ⟨g, 0, none⟩ ∧ g < w.heap.size ∧ w.cell? ⟨g, k * 2, none⟩ = some (.int .i64 l[k].1) ∧ w.cell? ⟨g, k * 2 + 1, none⟩ = some (.string l[k].2)
theorem RowsIn.drewN {w : World} {a : Option Addr} {l : HL} (h : RowsIn w a l) (n : Nat) : RowsIn (w.drewN n) a l := by
  have hb : Below w.heap.size w (w.drewN n) := below_drewN (Below.refl _ _) n
  intro k hk
  obtain ⟨g, e, hz, r0, r1⟩ := h k hk
  exact ⟨g, e, Nat.lt_of_lt_of_le hz hb.size, cell_step r0 hb, cell_step r1 hb⟩
theorem RowsIn.below {w w' : World} {a : Option Addr} {l : HL} (h : RowsIn w a l) (hb : Below w.heap.size w w') : RowsIn w' a l := by
  intro k hk
  obtain ⟨g, e, hz, r0, r1⟩ := h k hk
  exact ⟨g, e, Nat.lt_of_lt_of_le hz hb.size, cell_step r0 hb, cell_step r1 hb⟩
theorem drewN_plus (w : World) (m n : Nat) : (w.drewN m).drewN n = w.drewN (m + n) := by
  induction n with
  | zero => rfl
  | succ n ih => show ((w.drewN m).drewN n).drew = (w.drewN (m + n)).drew; rw [ih]

theorem alike_ok (w : World) (a a2 : Option Addr) (c c2 : Nat) (l : HL) (hl : l.length ≤ 1024) (h1 : RowsIn w a l) (h2 : RowsIn w a2 l) :
    Calls Try.prog 66 #[.slice a l.length c, .slice a2 l.length c2] w fun e w' => e = .returned (.bool true) ∧ ∃ m, w' = w.drewN m := by
  have H1 := Lib.hid h1
  have H2 := Lib.hid h2
  clear h1 h2
  go_enter Try.func66, Try.ntmps66
  go_wp2_with fail
  go_loopw [5] (fun s wr => ∃ k : Nat, k ≤ l.length ∧ s = .int .i64 k ∧ Hid (∃ m, wr = w.drewN m)) (fun s _ => l.length - (intOf s).toNat)
  case atStart => exact ⟨0, Nat.zero_le _, rfl, ⟨0, rfl⟩⟩
  case round =>
    obtain ⟨k, hk, rfl, hm⟩ := hrel
    have hw : IntKind.i64.wrap ((k : Int) + 1) = ((k + 1 : Nat) : Int) := by rw [IntWalk.i64_in _ (by omega)]; rfl
    by_cases hlt : k < l.length
    · obtain ⟨m, hm'⟩ := hm.out
      have q1 := H1.out.drewN m
      have q2 := H2.out.drewN m
      rw [← hm'] at q1 q2
      obtain ⟨g, rfl, hgz, r0, r1⟩ := q1 k hlt
      obtain ⟨g2, rfl, hgz2, s0, s1⟩ := q2 k hlt
      have n0 : (0 : Int) ≤ (k : Int) := by omega
      have n1 : (k : Int) < (l.length : Int) := by omega
      have HM := Lib.hid hm'
      clear hm' q1 q2
      go_wp2_with fail
      go_big_quiet (fail)
      go_wp2_with fail
      go_roundw
      case rel => exact ⟨k + 1, by omega, rfl, ⟨m + _, by rw [HM.out]; exact drewN_plus _ _ _⟩⟩
      case measure => simp [intOf]; omega
    · obtain rfl : k = l.length := by omega
      go_wp2_with fail
      go_ret
      exact ⟨rfl, hm.out⟩

theorem agree_ok (w : World) (base bl br base2 : Nat) (f m : Int) (cs : Cs) (L : HL) (h : LogAt w base bl f m cs) (hF : Fit f m cs) (hr : RefAt w base2 br f m L) (hR : Rel f m cs L) :
    Calls Try.prog 44 #[.pointer (some ⟨bl, 0, none⟩), .pointer (some ⟨br, 0, none⟩)] w fun e w' => e = .returned (.bool true) ∧ Below w.heap.size w w' := by
  have hRF := rfit hR hF
  have hf1 := hF.f1; have hf2 := hF.f2; have hm2 := hF.m2; have hlm := hF.len
  have hl1024 : cs.length ≤ 1024 := by omega
  have hTop := top_rel hR
  have hNx := next_rel hR
  have hAll := all_rel hR
  have hbl := both_len f cs
  have hrl := runF_full f cs
  have hrp := (runF_pre f cs).length_le
  have hnl := nextN_le cs
  have hLlen := hR.perm.length_eq
  have HG : Hid (∀ i, i ∈ holesF f cs → f ≤ i ∧ i < f + cs.length ∧ (getL L i).2 = false) := by
    intro i hi
    obtain ⟨k, hk, e1, e2⟩ := mem_holesF f cs i hi
    refine ⟨by omega, by omega, ?_⟩
    rw [get_rel hR, e1, look_at f cs k hk, e2]
  have HRise := Lib.hid (holesF_rise f cs)
  have hT := told_ok w base bl f m cs h hF
  have HL := Lib.hid h
  have HF := Lib.hid hF
  have HRA := Lib.hid hr
  have HRF := Lib.hid hRF
  have HRun := Lib.hid (runF_pre f cs)
  have HT := Lib.hid hT
  clear h hF hr hRF hT hR hlm hm2
  go_enter Try.func44, Try.ntmps44
  go_wp2_with fail
  refine HT.out.mono ?_; rintro e w1 ⟨v0, v1, v2, rfl, hb1, ho0, ho1, ho2⟩
  obtain ⟨a0, c0, rfl⟩ := own_shape ho0
  obtain ⟨a1, c1, rfl⟩ := own_shape ho1
  obtain ⟨a2, c2, rfl⟩ := own_shape ho2
  have HL1 := Lib.hid (HL.out.below hb1)
  have HR1 := Lib.hid (HRA.out.below hb1)
  have HB1 := Lib.hid hb1
  have hAl := rall_ok w1 base2 br f m L HR1.out HRF.out cs.length hl1024 hTop
  rw [hAll] at hAl
  have HAL := Lib.hid hAl
  clear hb1 hAl hAll
  go_wp2_with fail
  refine HAL.out.mono ?_; rintro e w2 ⟨v9, rfl, ho9, hb2⟩
  obtain ⟨a9, c9, rfl⟩ := own_shape ho9
  have ho0' := own_below ho0 hb2
  have ho1' := own_below ho1 hb2
  have ho2' := own_below ho2 hb2
  have HL2 := Lib.hid (HL1.out.below hb2)
  have HR2 := Lib.hid (HR1.out.below hb2)
  have HB2 := Lib.hid (below_step HB1.out hb2)
  have hcap := own_cap ho9
  have R0 : Hid (RowsIn w2 a0 (allF f cs)) := fun k hk => own_held ho0' k hk
  have R9 : Hid (RowsIn w2 a9 (allF f cs)) := fun k hk => by
    obtain ⟨g, e, _, hz, q0, q1, _⟩ := own_row ho9 k hk
    exact ⟨g, e, hz, q0, q1⟩
  have R1 : Hid (RowsIn w2 a1 (runF f cs)) := fun k hk => own_held ho1' k hk
  have R19 : Hid (RowsIn w2 a9 (runF f cs)) := by
    intro k hk
    obtain ⟨g, e, hz, q0, q1⟩ := R9.out k (by omega)
    obtain ⟨v, e1, e2⟩ := runF_at f cs k hk (by omega)
    rw [e2] at q0 q1
    rw [e1]
    exact ⟨g, e, hz, q0, q1⟩
  have RH : Hid (∀ W, Below w2.heap.size w2 W → ∀ k (hk : k < (holesF f cs).length), ∃ g, a2 = some ⟨g, 0, none⟩ ∧ g < W.heap.size ∧ W.cell? ⟨g, k, none⟩ = some (.int .i64 (holesF f cs)[k])) := fun W hW k hk => own_nums (own_below ho2' hW) k hk
  clear ho0 ho1 ho2 ho9 ho0' ho1' ho2' hb2
  obtain ⟨hrow0, aL, cL, hrow, hrow2⟩ := HR2.out
  clear hrow0 hrow2
  obtain ⟨k0, k1, k2, kf0, kf1, kf2, kz⟩ := blk3 hrow
  clear kf0 kf1 kf2 k1
  have HRow := Lib.hid hrow
  rw [hLlen] at k2
  have hwn : IntKind.i64.wrap (f + (nextN cs : Int) - f) = (nextN cs : Int) := by rw [IntWalk.i64_in _ (by omega)]; omega
  have hwt : IntKind.i64.wrap (f + (cs.length : Int) - f) = (cs.length : Int) := by rw [IntWalk.i64_in _ (by omega)]; omega
  have hwh : IntKind.i64.wrap ((cs.length : Int) - ((allF f cs).length : Int)) = ((holesF f cs).length : Int) := by rw [IntWalk.i64_in _ (by omega)]; omega
  have cF : Hid (∀ W, Below w2.heap.size w2 W → Calls Try.prog 48 #[.pointer (some ⟨bl, 0, none⟩)] W fun e w' => e = .returned (.int .i64 f) ∧ Below W.heap.size W w') := fun W hW => (first_ok W _ _ _ _ _ (HL2.out.below hW)).mono fun e w' ⟨h1, h2⟩ => ⟨h1, h2 ▸ Below.refl _ _⟩
  have cN : Hid (∀ W, Below w2.heap.size w2 W → Calls Try.prog 49 #[.pointer (some ⟨bl, 0, none⟩)] W fun e w' => e = .returned (.int .i64 (f + nextN cs)) ∧ Below W.heap.size W w') := fun W hW => next_ok W _ _ _ _ _ (HL2.out.below hW) HF.out
  have cT : Hid (∀ W, Below w2.heap.size w2 W → Calls Try.prog 50 #[.pointer (some ⟨bl, 0, none⟩)] W fun e w' => e = .returned (.int .i64 (f + cs.length)) ∧ Below W.heap.size W w') := fun W hW => top_ok W _ _ _ _ _ (HL2.out.below hW) HF.out
  have cL' : Hid (∀ W, Below w2.heap.size w2 W → Calls Try.prog 65 #[.pointer (some ⟨bl, 0, none⟩)] W fun e w' => e = .returned (.int .i64 ((allF f cs).length : Nat)) ∧ Below W.heap.size W w') := fun W hW => len_ok W _ _ _ _ _ (HL2.out.below hW) HF.out
  have rN0 : Hid (∀ W, Below w2.heap.size w2 W → Calls Try.prog 63 #[.pointer (some ⟨br, 0, none⟩)] W fun e w' => e = .returned (.int .i64 (f + nextN cs)) ∧ w' = W) := fun W hW => rnext_ok W base2 br f m L (HR2.out.below hW) HRF.out (nextN cs) (by omega) hNx.1 hNx.2
  have rT0 : Hid (∀ W, Below w2.heap.size w2 W → Calls Try.prog 64 #[.pointer (some ⟨br, 0, none⟩)] W fun e w' => e = .returned (.int .i64 (f + cs.length)) ∧ w' = W) := fun W hW => by
    have := rtop_ok W base2 br f m L (HR2.out.below hW) HRF.out
    rwa [hTop] at this
  have rG0 : Hid (∀ W, Below w2.heap.size w2 W → ∀ i, Calls Try.prog 39 #[.pointer (some ⟨br, 0, none⟩), .int .i64 i] W fun e w' => e = .returned (.tuple #[.string (getL L i).1, .bool (getL L i).2]) ∧ w' = W) := fun W hW i => rget_ok W base2 br f m L i (HR2.out.below hW) HRF.out.len
  have rN : Hid (∀ W, Below w2.heap.size w2 W → Calls Try.prog 63 #[.pointer (some ⟨br, 0, none⟩)] W fun e w' => e = .returned (.int .i64 (f + nextN cs)) ∧ Below W.heap.size W w') := fun W hW => (rN0.out W hW).mono fun e w' ⟨h1, h2⟩ => ⟨h1, h2 ▸ Below.refl _ _⟩
  have rT : Hid (∀ W, Below w2.heap.size w2 W → Calls Try.prog 64 #[.pointer (some ⟨br, 0, none⟩)] W fun e w' => e = .returned (.int .i64 (f + cs.length)) ∧ Below W.heap.size W w') := fun W hW => (rT0.out W hW).mono fun e w' ⟨h1, h2⟩ => ⟨h1, h2 ▸ Below.refl _ _⟩
  have al0 : Hid (∀ W, Below w2.heap.size w2 W → Calls Try.prog 66 #[.slice a0 (allF f cs).length c0, .slice a9 (allF f cs).length c9] W fun e w' => e = .returned (.bool true) ∧ Below W.heap.size W w') := fun W hW => (alike_ok W a0 a9 c0 c9 _ (by omega) (R0.out.below hW) (R9.out.below hW)).mono fun e w' ⟨h1, m, h2⟩ => ⟨h1, h2 ▸ below_drewN (Below.refl _ _) m⟩
  have al1 : Hid (∀ W, Below w2.heap.size w2 W → Calls Try.prog 66 #[.slice a1 (runF f cs).length c1, .slice a9 (runF f cs).length c9] W fun e w' => e = .returned (.bool true) ∧ ∃ m, w' = W.drewN m) := fun W hW => alike_ok W a1 a9 c1 c9 _ (by omega) (R1.out.below hW) (R19.out.below hW)
  generalize hLA : allF f cs = LA at *
  generalize hLR : runF f cs = LR at *
  generalize hLH : holesF f cs = LH at *
  clear R0 R9 R1 R19 hLA hLR hLH hrow hNx hTop hLlen
  go_wp2_with fail
  have hStab : ∀ Wx Wy : World, Below Wx.heap.size Wx Wy → (Wx.cell? ⟨br, 0, none⟩ = some (.int .i64 f) ∧ Wx.cell? ⟨br, 2, none⟩ = some (.slice aL LA.length cL) ∧ Below w2.heap.size w2 Wx) → (Wy.cell? ⟨br, 0, none⟩ = some (.int .i64 f) ∧ Wy.cell? ⟨br, 2, none⟩ = some (.slice aL LA.length cL) ∧ Below w2.heap.size w2 Wy) := by
    intro Wx Wy kk hs
    obtain ⟨s0, s1, s2⟩ := hs
    exact ⟨cell_step s0 kk, cell_step s1 kk, below_step s2 kk⟩
  have HhStab := Lib.hid hStab
  clear hStab
  have lF : Hid (∀ Wx : World, (Wx.cell? ⟨br, 0, none⟩ = some (.int .i64 f) ∧ Wx.cell? ⟨br, 2, none⟩ = some (.slice aL LA.length cL) ∧ Below w2.heap.size w2 Wx) → Calls Try.prog 48 #[.pointer (some ⟨bl, 0, none⟩)] Wx fun e w' => e = .returned (.int .i64 f) ∧ Below Wx.heap.size Wx w') := by
    intro Wx hs
    obtain ⟨s0, s1, s2⟩ := hs
    have hK := s2
    exact cF.out _ hK
  have lN : Hid (∀ Wx : World, (Wx.cell? ⟨br, 0, none⟩ = some (.int .i64 f) ∧ Wx.cell? ⟨br, 2, none⟩ = some (.slice aL LA.length cL) ∧ Below w2.heap.size w2 Wx) → Calls Try.prog 49 #[.pointer (some ⟨bl, 0, none⟩)] Wx fun e w' => e = .returned (.int .i64 (f + nextN cs)) ∧ Below Wx.heap.size Wx w') := by
    intro Wx hs
    obtain ⟨s0, s1, s2⟩ := hs
    have hK := s2
    exact cN.out _ hK
  have lrN : Hid (∀ Wx : World, (Wx.cell? ⟨br, 0, none⟩ = some (.int .i64 f) ∧ Wx.cell? ⟨br, 2, none⟩ = some (.slice aL LA.length cL) ∧ Below w2.heap.size w2 Wx) → Calls Try.prog 63 #[.pointer (some ⟨br, 0, none⟩)] Wx fun e w' => e = .returned (.int .i64 (f + nextN cs)) ∧ Below Wx.heap.size Wx w') := by
    intro Wx hs
    obtain ⟨s0, s1, s2⟩ := hs
    have hK := s2
    exact rN.out _ hK
  have lT : Hid (∀ Wx : World, (Wx.cell? ⟨br, 0, none⟩ = some (.int .i64 f) ∧ Wx.cell? ⟨br, 2, none⟩ = some (.slice aL LA.length cL) ∧ Below w2.heap.size w2 Wx) → Calls Try.prog 50 #[.pointer (some ⟨bl, 0, none⟩)] Wx fun e w' => e = .returned (.int .i64 (f + cs.length)) ∧ Below Wx.heap.size Wx w') := by
    intro Wx hs
    obtain ⟨s0, s1, s2⟩ := hs
    have hK := s2
    exact cT.out _ hK
  have lrT : Hid (∀ Wx : World, (Wx.cell? ⟨br, 0, none⟩ = some (.int .i64 f) ∧ Wx.cell? ⟨br, 2, none⟩ = some (.slice aL LA.length cL) ∧ Below w2.heap.size w2 Wx) → Calls Try.prog 64 #[.pointer (some ⟨br, 0, none⟩)] Wx fun e w' => e = .returned (.int .i64 (f + cs.length)) ∧ Below Wx.heap.size Wx w') := by
    intro Wx hs
    obtain ⟨s0, s1, s2⟩ := hs
    have hK := s2
    exact rT.out _ hK
  have lL : Hid (∀ Wx : World, (Wx.cell? ⟨br, 0, none⟩ = some (.int .i64 f) ∧ Wx.cell? ⟨br, 2, none⟩ = some (.slice aL LA.length cL) ∧ Below w2.heap.size w2 Wx) → Calls Try.prog 65 #[.pointer (some ⟨bl, 0, none⟩)] Wx fun e w' => e = .returned (.int .i64 (LA.length : Nat)) ∧ Below Wx.heap.size Wx w') := by
    intro Wx hs
    obtain ⟨s0, s1, s2⟩ := hs
    have hK := s2
    exact cL'.out _ hK
  have lA : Hid (∀ Wx : World, (Wx.cell? ⟨br, 0, none⟩ = some (.int .i64 f) ∧ Wx.cell? ⟨br, 2, none⟩ = some (.slice aL LA.length cL) ∧ Below w2.heap.size w2 Wx) → Calls Try.prog 66 #[.slice a0 LA.length c0, .slice a9 LA.length c9] Wx fun e w' => e = .returned (.bool true) ∧ Below Wx.heap.size Wx w') := by
    intro Wx hs
    obtain ⟨s0, s1, s2⟩ := hs
    have hK := s2
    exact al0.out _ hK
  go_region_held3 (fun w' => w'.cell? ⟨br, 0, none⟩ = some (.int .i64 f) ∧ w'.cell? ⟨br, 2, none⟩ = some (.slice aL LA.length cL) ∧ Below w2.heap.size w2 w') (first | (exact ⟨k0, k2, below_drewN (Below.refl _ _) 1⟩) | (refine HhStab.out _ _ hbn ?_; assumption)) (first | (go_at_call 48; refine (lF.out _ (by assumption)).mono ?_; rintro e wn ⟨rfl, hbn⟩) | (go_at_call 49; refine (lN.out _ (by assumption)).mono ?_; rintro e wn ⟨rfl, hbn⟩) | (go_at_call 63; refine (lrN.out _ (by assumption)).mono ?_; rintro e wn ⟨rfl, hbn⟩) | (go_at_call 50; refine (lT.out _ (by assumption)).mono ?_; rintro e wn ⟨rfl, hbn⟩) | (go_at_call 64; refine (lrT.out _ (by assumption)).mono ?_; rintro e wn ⟨rfl, hbn⟩) | (go_at_call 65; refine (lL.out _ (by assumption)).mono ?_; rintro e wn ⟨rfl, hbn⟩) | (go_at_call 66; refine (lA.out _ (by assumption)).mono ?_; rintro e wn ⟨rfl, hbn⟩))
  have hS : wn.cell? ⟨br, 0, none⟩ = some (.int .i64 f) ∧ wn.cell? ⟨br, 2, none⟩ = some (.slice aL LA.length cL) ∧ Below w2.heap.size w2 wn := by assumption
  obtain ⟨n0, n2, hBn⟩ := hS
  have nz := cell_lt n0
  have hBN := Lib.hid hBn
  have hq : ∀ n, Calls Try.prog 63 #[.pointer (some ⟨br, 0, none⟩)] (wn.drewN n) fun e w' => e = .returned (.int .i64 (f + nextN cs)) ∧ w' = wn.drewN n := fun n => rN0.out _ (below_drewN hBn n)
  have n9 : (nextN cs : Int) ≤ (c9 : Int) := by omega
  have n9' : (0 : Int) ≤ (nextN cs : Int) := by omega
  clear k0 k2 hBn
  go_wp2_with fail
  go_big_quiet (first | (go_at_call 63; exact Calls.quiet_of_same (hq _)))
  obtain ⟨w5, hw5⟩ : ∃ w5, w5 = wn.drewN nq := ⟨_, rfl⟩
  rw [← hw5]
  have m0 : w5.cell? ⟨br, 0, none⟩ = some (.int .i64 f) := by rw [hw5]; exact n0
  have mz := cell_lt m0
  have HB5 : Hid (Below w2.heap.size w2 w5) := by rw [hw5]; exact below_drewN hBN.out _
  have hqt : ∀ n, Calls Try.prog 64 #[.pointer (some ⟨br, 0, none⟩)] (w5.drewN n) fun e w' => e = .returned (.int .i64 (f + cs.length)) ∧ w' = w5.drewN n := fun n => rT0.out _ (below_drewN HB5.out n)
  have hal : ∀ n, Calls Try.prog 66 #[.slice a1 (nextN cs) c1, .slice a9 (nextN cs) c9] (w5.drewN n) fun e w'' => e = .returned (.bool true) ∧ ∃ m, w'' = w5.drewN m := fun n => by
    have := al1.out _ (below_drewN HB5.out n)
    rw [hrl] at this
    refine this.mono ?_
    rintro e w' ⟨h1, m, h2⟩
    exact ⟨h1, n + m, by rw [h2, drewN_plus]⟩
  clear n0 n2 nz hw5
  go_wp2_with fail
  go_big_quiet (first | (go_at_call 64; exact Calls.quiet_of_same (hqt _)) | (go_at_call 66; exact hal _))
  go_wp2_with fail
  have hB6 := Lib.hid (below_drewN HB5.out nq)
  obtain ⟨w6, hw6⟩ : ∃ w6, w6 = w5.drewN nq := ⟨_, rfl⟩
  rw [← hw6] at hB6 ⊢
  clear hw6 hqt hal m0 mz hwn hwt hwh hcap n9 n9' hq
  have hLH : LH.length ≤ 1024 := by omega
  clear hbl hrl hrp
  go_loopw [11] (fun s wr => ∃ k : Nat, k ≤ LH.length ∧ s = .int .i64 k ∧ Hid (Below w2.heap.size w2 wr)) (fun s _ => LH.length - (intOf s).toNat)
  case atStart => exact ⟨0, Nat.zero_le _, rfl, hB6⟩
  case round =>
    obtain ⟨k, hk, rfl, hb⟩ := hrel
    have hw : IntKind.i64.wrap ((k : Int) + 1) = ((k + 1 : Nat) : Int) := by rw [IntWalk.i64_in _ (by omega)]; rfl
    by_cases hlt : k < LH.length
    · obtain ⟨g, rfl, hgz, r0⟩ := RH.out wr hb.out k hlt
      obtain ⟨x, hx⟩ : ∃ x, x = LH[k] := ⟨_, rfl⟩
      obtain ⟨x1, x2, x3⟩ := HG.out x (by rw [hx]; exact List.getElem_mem hlt)
      have hprev : ∀ j, k = j + 1 → ∃ y, wr.cell? ⟨g, j, none⟩ = some (.int .i64 y) ∧ y < x := by
        intro j hj
        obtain ⟨g', e', _, q0⟩ := RH.out wr hb.out j (by omega)
        simp only [Option.some.injEq, Addr.mk.injEq, and_true] at e'
        subst e'
        exact ⟨_, q0, by rw [hx]; exact List.pairwise_iff_getElem.1 HRise.out j k (by omega) hlt (by omega)⟩
      rw [← hx] at r0
      have hgt := rG0.out wr hb.out x
      rw [x3] at hgt
      have m0 : wr.cell? ⟨br, 0, none⟩ = some (.int .i64 f) := (blk3 (hp_step HRow.out hb.out)).1
      have mz := cell_lt m0
      have hqt : ∀ n, Calls Try.prog 64 #[.pointer (some ⟨br, 0, none⟩)] (wr.drewN n) fun e w' => e = .returned (.int .i64 (f + cs.length)) ∧ w' = wr.drewN n := fun n => rT0.out _ (below_drewN hb.out n)
      have HGT := Lib.hid hgt
      clear hx x3 hgt
      have n0 : (0 : Int) ≤ (k : Int) := by omega
      have n1 : (k : Int) < (LH.length : Int) := by omega
      have l1 : decide (x < f) = false := decide_eq_false (by omega)
      have l2 : decide (f + (cs.length : Int) ≤ x) = false := decide_eq_false (by omega)
      cases k with
      | zero =>
        clear hprev
        go_wp2_with fail
        refine HGT.out.mono ?_; rintro e w7 ⟨rfl, rfl⟩
        go_wp2_with fail
        go_big_quiet (first | (go_at_call 64; exact Calls.quiet_of_same (hqt _)))
        go_wp2_with fail
        go_roundw
        case rel => exact ⟨1, by omega, rfl, below_drewN hb.out _⟩
        case measure => simp [intOf]; omega
      | succ j =>
        obtain ⟨y, s0, hyx⟩ := hprev j rfl
        clear hprev
        have hwj : IntKind.i64.wrap (((j + 1 : Nat) : Int) - 1) = (j : Int) := by rw [IntWalk.i64_in _ (by omega)]; omega
        have hpj : (0 : Int) < ((j + 1 : Nat) : Int) := by omega
        have n2 : (0 : Int) ≤ (j : Int) := by omega
        have n3 : (j : Int) < (LH.length : Int) := by omega
        have l3 : decide (x ≤ y) = false := decide_eq_false (by omega)
        go_wp2_with fail
        refine HGT.out.mono ?_; rintro e w7 ⟨rfl, rfl⟩
        go_wp2_with fail
        go_big_quiet (first | (go_at_call 64; exact Calls.quiet_of_same (hqt _)))
        go_wp2_with fail
        go_roundw
        case rel => exact ⟨j + 1 + 1, by omega, rfl, below_drewN hb.out _⟩
        case measure => simp [intOf]; omega
    · obtain rfl : k = LH.length := by omega
      go_wp2_with fail
      go_ret
      exact ⟨rfl, below_step HB2.out hb.out⟩
end Go.Proofs.Ytpnkohjppbgiaaa.slotagree
