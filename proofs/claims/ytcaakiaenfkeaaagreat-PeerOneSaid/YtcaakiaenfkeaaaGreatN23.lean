/-
  New: a member that has what was saved.
-/
import Derived.Test.YtcaakiaenfkeaaaGreatN22
import Derived.Test.YtcaakiaenfkeaaaGreatN09
import Derived.Deep.CutBlock
import Derived.StillTailTactics
namespace Go.Proofs.YtcaakiaenfkeaaaGreat.penw
open Go.ChangeShapes Go.WideShapes Go.ChangeAt Go.RowKit
open Go.Proofs.YtcaakiaenfkeaaaGreat.kit Go.Proofs.YtcaakiaenfkeaaaGreat.mapkit Go.Proofs.YtcaakiaenfkeaaaGreat.byt Go.Proofs.YtcaakiaenfkeaaaGreat.own Go.Proofs.YtcaakiaenfkeaaaGreat.accd Go.Proofs.YtcaakiaenfkeaaaGreat.accb Go.Proofs.YtcaakiaenfkeaaaGreat.acce Go.Proofs.YtcaakiaenfkeaaaGreat.chd Go.Proofs.YtcaakiaenfkeaaaGreat.che Go.Proofs.YtcaakiaenfkeaaaGreat.ownr Go.Proofs.YtcaakiaenfkeaaaGreat.pep Go.Proofs.YtcaakiaenfkeaaaGreat.peb Go.Proofs.YtcaakiaenfkeaaaGreat.pem Go.Proofs.YtcaakiaenfkeaaaGreat.pen Go.Proofs.YtcaakiaenfkeaaaGreat.pes Go.Proofs.YtcaakiaenfkeaaaGreat.pec Go.Proofs.YtcaakiaenfkeaaaGreat.pelo
set_option linter.unusedVariables false
set_option linter.unusedSimpArgs false
set_option maxHeartbeats 40000000
set_option maxRecDepth 100000

/-- Nobody has this number yet. -/
def Fresh (O : Owners) (i : Nat) : Prop := i ≠ 0 ∧ ∀ k, (O k).1 ≠ i
theorem fr_fresh {w w' : World} {O O' : Owners} {i : Nat} (h : Fresh O i) (F : Fr (Mine i) w O w' O') : Fr (fun _ => False) w O w' O' :=
  ⟨F.os, F.tape, F.output, F.size, F.own, fun k hk _ => F.same k hk (fun hh => h.2 k hh.1), F.byt, F.clean⟩
/-- A member that has just been made. -/
def bare (node nodes : Int) (ab mb : Nat) (A : AS) (p1 p2 : Int) (ix : Int) (im : Sl Nat) : PM :=
  { node := node, nodes := nodes, ab := ab, mb := mb, A := A, s1 := p1, s2 := p2, h1 := 0, h2 := 0, index := ix, im := im, en := sl0, o1 := 0, o2 := 0, leads := false, pr := fun _ => ⟨false, 0, 0, sl0⟩, ob := none, td := sl0, next := 0, taken := 0, pc := fun _ => (0, none), nt := sl0, lt := sl0, ch := sl0, ri := 0, rm := sl0 }
theorem peer_new {w w4 : World} {O : Owners} {i pb : Nat} {node nodes p1 p2 ix : Int} {ab mb : Nat} {A : AS} {im : Sl Nat} (hcl : ownr.Clean w O) (hi : i ≠ 0) (hb : Below w.heap.size w w4) (hpb : w.heap.size ≤ pb) (hblk : w4.heap[pb]? = some (.cells (pcells (bare node nodes ab mb A p1 p2 ix im)) 70 (0, 0)))
    (hacc : AccIs w4 w.heap.size ab mb A) (him : RoB w4 im) : ∃ O4, PeerAt w4 O4 i pb (bare node nodes ab mb A p1 p2 ix im) ∧ Fr (fun _ => False) w O w4 O4 ∧ ∀ k, k ≠ pb → k ≠ ab → k ≠ mb → O4 k = O k := by
  obtain ⟨vs, hat, hvs⟩ := hacc
  obtain ⟨es, cl, hmap⟩ := hat.map.obj
  have hmz := (Array.getElem?_eq_some_iff.1 hmap).1
  have haz := (kit.blk hat.blk).2.2
  have hpz := (kit.blk hblk).2.2
  have h1 : pb ≠ ab := by
    rintro rfl
    have := hat.blk
    rw [hblk] at this
    simp only [Option.some.injEq, Obj.cells.injEq] at this
    exact absurd this.2.1 (by decide)
  have h2 : pb ≠ mb := by rintro rfl; rw [hblk] at hmap; simp at hmap
  obtain ⟨O4, hO4⟩ : ∃ O4 : Owners, O4 = fun k => if k = pb then (i, 1) else if k = ab ∨ k = mb then (i, 2) else O k := ⟨_, rfl⟩
  have F : Fr (fun _ => False) w O w4 O4 := by
    refine ⟨hb.os, hb.tape, hb.output, hb.size, fun k hk => ?_, fun k hk _ => hb.block k hk, kept_below hb, fun k hk => ?_⟩
    · have l1 := hat.lo
      rw [hO4]; dsimp only
      rw [if_neg (by omega), if_neg (by omega)]
    · rw [hO4]; dsimp only
      rw [if_neg (by omega), if_neg (by omega)]
      exact hcl k (Nat.le_trans hb.size hk)
  have tp : O4 pb = (i, 1) := by rw [hO4]; exact if_pos rfl
  have ta : O4 ab = (i, 2) := by rw [hO4]; dsimp only; rw [if_neg (fun e => h1 e.symm), if_pos (.inl rfl)]
  have tm : O4 mb = (i, 2) := by rw [hO4]; dsimp only; rw [if_neg (fun e => h2 e.symm), if_pos (.inr rfl)]
  refine ⟨O4, ⟨F.clean, hi, hblk, tp, ⟨fun _ => ⟨accis_mono ⟨vs, hat, hvs⟩ (Nat.zero_le _), ta, tm⟩, fun _ => ⟨row_nil _ _ _ _ _, by simp [bare, sl0]⟩, fun _ x hx => absurd hx (by simp [bare]), fun _ => pert.todo_nil _ _ _, fun _ => ⟨row_nil _ _ _ _ _, by simp [bare, sl0]⟩, fun _ => ⟨row_nil _ _ _ _ _, by simp [bare, sl0]⟩, fun _ => ⟨row_nil _ _ _ _ _, by simp [bare, sl0]⟩, fun j hj _ => ⟨row_nil _ _ _ _ _, by simp [bare, sl0]⟩, fun j hj _ x hx => absurd hx (by simp [bare]), him, rob_nil _⟩⟩, F, fun k e1 e2 e3 => ?_⟩
  rw [hO4]; dsimp only
  rw [if_neg e1, if_neg (fun hh => hh.elim e2 e3)]
/-- At the head of New's loop. -/
def LoopN (wc : World) (O4 : Owners) (i pb : Nat) (M0 : PM) (S : SvM) (sb : Nat) (wr : World) (k : Nat) : Prop :=
  ∃ s1 s2 : Sl Et, s1.l.map le = (S.en.l.map le).take k ∧ s2.l.map le = (S.en.l.map le).take k ∧ Behind wc O4 i pb (Mine i) wr { M0 with en := s1, ch := s2 } ∧ wr.heap[sb]? = some (.cells S.cells 33 (0, 0))
/-- The same as data. -/
def newD (node nodes : Int) (S : SvM) : PD where
  node := node
  nodes := nodes
  A := ⟨S.p1, S.p2, S.ix + S.en.l.length + 1, S.vs.l.map lv⟩
  seen := (S.p1, S.p2)
  heard := zb
  index := S.ix
  image := S.im.l
  entries := S.en.l.map le
  own := zb
  leads := false
  prom := fun _ => pm0
  opn := none
  todo := []
  next := 0
  taken := 0
  parc := fun _ => (0, none)
  notes := []
  letters := []
  chosen := S.en.l.map le
  rindex := S.ix
  rimage := S.im.l
theorem new_arg (w : World) (node nodes : Int) (S : SvM) (h : ¬ ((nodes = 1 ∨ nodes = 3 ∨ nodes = 5) ∧ 1 ≤ node ∧ node ≤ nodes)) :
    Calls Tryz.prog 4 #[.int .i64 node, .int .i64 nodes, S.val] w fun e w' => e = .returned (.tuple #[.pointer none, .int .i64 1]) ∧ Below w.heap.size w w' := by
  obtain ⟨w1, hw1⟩ : ∃ w1 : World, w1 = w.alloc (.cells S.cells 33) := ⟨_, rfl⟩
  have hb1 : Below w.heap.size w w1 := by rw [hw1]; exact below_new1 _ _
  have hn1 : w1.heap[w.heap.size]? = some (.cells S.cells 33 (0, 0)) := by rw [hw1]; exact hp_alloc_new _ _
  obtain ⟨sb, hsb⟩ : ∃ sb, sb = w.heap.size := ⟨_, rfl⟩
  rw [← hsb] at hn1
  have hc := (kit.blk hn1).1
  have x0 : w1.cell? ⟨sb, 0, none⟩ = some (.int .i64 S.p1) := hc 0
  have x1 : w1.cell? ⟨sb, 1, none⟩ = some (.int .i64 S.p2) := hc 1
  have x2 : w1.cell? ⟨sb, 2, none⟩ = some (.slice S.vs.a S.vs.l.length S.vs.c) := hc 2
  have x3 : w1.cell? ⟨sb, 3, none⟩ = some (.int .i64 S.ix) := hc 3
  have x4 : w1.cell? ⟨sb, 4, none⟩ = some (.slice S.im.a S.im.l.length S.im.c) := hc 4
  have x5 : w1.cell? ⟨sb, 5, none⟩ = some (.slice S.en.a S.en.l.length S.en.c) := hc 5
  have HLO := Lib.hid (load_arg w1 node nodes S h)
  simp only [SvM.val] at HLO
  simp only [SvM.val]
  simp only [SvM.cells] at hw1
  have HW1 := Lib.hid hw1
  have HSB := Lib.hid hsb
  have HB1 := Lib.hid hb1
  clear hw1 hsb hn1 hc hb1 h
  go_enter Tryz.func4, Tryz.ntmps4
  go_upto_region 1 with fail
  rw [← HW1.out, ← HSB.out]
  go_wp2_with (go_at_call 13; refine HLO.out.mono ?_; rintro e w2 ⟨rfl, hb2⟩; have HB2 := Lib.hid hb2; clear hb2)
  exact bodyPost_ret (v := .tuple #[.pointer none, .int .i64 1]) (by simp [results, Tryz.results4, go_sem]) rfl ⟨rfl, below_step HB1.out HB2.out⟩
theorem new_ok (w : World) (O : Owners) (i : Nat) (node nodes : Int) (S : SvM) (hcl : ownr.Clean w O) (hfr : Fresh O i) (hr : RdS w S) (hs : OkS node nodes S) (h0 : S.ix = 0) :
    Calls Tryz.prog 4 #[.int .i64 node, .int .i64 nodes, S.val] w fun e w' => ∃ (pb : Nat) (M' : PM) (O' : Owners), e = .returned (.tuple #[.pointer (some ⟨pb, 0, none⟩), .int .i64 0]) ∧ PeerAt w' O' i pb M' ∧ Fr (fun _ => False) w O w' O' ∧ M'.dat = newD node nodes S ∧ w.heap.size ≤ pb := by
  obtain ⟨w1, hw1⟩ : ∃ w1 : World, w1 = w.alloc (.cells S.cells 33) := ⟨_, rfl⟩
  have hb1 : Below w.heap.size w w1 := by rw [hw1]; exact below_new1 _ _
  have hn1 : w1.heap[w.heap.size]? = some (.cells S.cells 33 (0, 0)) := by rw [hw1]; exact hp_alloc_new _ _
  obtain ⟨sb, hsb⟩ : ∃ sb, sb = w.heap.size := ⟨_, rfl⟩
  rw [← hsb] at hn1
  have HX : Hid (∀ W : World, W.heap[sb]? = some (.cells S.cells 33 (0, 0)) → W.cell? ⟨sb, 0, none⟩ = some (.int .i64 S.p1) ∧ W.cell? ⟨sb, 1, none⟩ = some (.int .i64 S.p2) ∧ W.cell? ⟨sb, 2, none⟩ = some (.slice S.vs.a S.vs.l.length S.vs.c) ∧ W.cell? ⟨sb, 3, none⟩ = some (.int .i64 0) ∧ W.cell? ⟨sb, 4, none⟩ = some (.slice S.im.a S.im.l.length S.im.c) ∧ W.cell? ⟨sb, 5, none⟩ = some (.slice S.en.a S.en.l.length S.en.c) ∧ sb < W.heap.size) := by
    intro W hh
    have hc := (kit.blk hh).1
    exact ⟨hc 0, hc 1, hc 2, by rw [← h0]; exact hc 3, hc 4, hc 5, (kit.blk hh).2.2⟩
  have HLO := Lib.hid (load_ok w1 node nodes S (RdS.below hr hb1) hs)
  simp only [SvM.val] at HLO
  simp only [SvM.val]
  simp only [SvM.cells] at hw1
  obtain ⟨ea, hea⟩ : ∃ ea, ea = S.en.a := ⟨_, rfl⟩
  rw [← hea] at HLO HX hw1 ⊢
  have HEA := Lib.hid hea
  obtain ⟨x0, x1, x2, x3, x4, x5, xz⟩ := HX.out w1 hn1
  rw [h0] at HLO ⊢
  rw [h0] at hw1
  have HR1 := Lib.hid (RdS.below hr hb1)
  have HS := Lib.hid hs
  have HW1 := Lib.hid hw1
  have HSB := Lib.hid hsb
  have HB1 := Lib.hid hb1
  have HN1 := Lib.hid hn1
  have HCL := Lib.hid hcl
  have HFR := Lib.hid hfr
  have H0 := Lib.hid h0
  clear hw1 hsb hn1 hb1 hr hs hcl hfr h0 hea
  go_enter Tryz.func4, Tryz.ntmps4
  go_upto_region 1 with fail
  rw [← HW1.out, ← HSB.out]
  go_upto_region 4 with (go_at_call 13; refine HLO.out.mono ?_; rintro e w2 ⟨hb2, ab, mb, rfl, hab, hmb, hacc⟩; have HB2 := Lib.hid hb2; have HAC := Lib.hid hacc; obtain ⟨y0, y1, y2, y3, y4, y5, yz⟩ := HX.out w2 (hp_step HN1.out hb2); clear hb2 hacc)
  have hbd2 : Below w2.heap.size w2 w2.drew := below_drewN (Below.refl _ w2) 1
  have R2 := (HR1.out.below HB2.out).below hbd2
  have HCN := Lib.hid (clone_any S.im.l S.im.a S.im.c w2.drew R2.im.len R2.im.nil R2.im.lie)
  have HBD := Lib.hid hbd2
  have HR2 := Lib.hid R2
  clear hbd2 R2 x0 x1 x2 x3 x4 x5 xz HLO
  have hn2 := hp_step HN1.out HB2.out
  have HN2 := Lib.hid hn2
  clear hn2
  obtain ⟨A, hA⟩ : ∃ A : AS, A = ⟨S.p1, S.p2, 0 + S.en.l.length + 1, S.vs.l.map lv⟩ := ⟨_, rfl⟩
  rw [← hA] at HAC
  have HA := Lib.hid hA
  clear hA
  go_cut [10] from 23 to 36 (fun q wx => ∃ pb, q = .pointer (some ⟨pb, 0, none⟩) ∧ Hid (∃ (a3 : Option Addr) (c3 : Nat), RoB wx ⟨a3, c3, S.im.l⟩ ∧ w2.heap.size ≤ pb ∧ Below w2.heap.size w2 wx ∧ wx.heap[pb]? = some (.cells (pcells (bare node nodes ab mb A S.p1 S.p2 0 ⟨a3, c3, S.im.l⟩)) 70 (0, 0))))
  case first =>
    go_region_law (go_simp; go_at_call 14; refine HCN.out.mono ?_; rintro e w3 ⟨v3, rfl, ho3, hb3⟩; obtain ⟨a3, c3, rfl⟩ := own_shape ho3; have HO3 := Lib.hid ho3; have HB3 := Lib.hid (below_step HBD.out hb3); obtain ⟨z0, z1, z2, z3, z4, z5, zz⟩ := HX.out w3 (hp_step (W := w2.drew) HN2.out hb3); clear ho3 hb3)
    all_goals
      go_wp2_with fail
      go_meet
      case rel => exact ⟨w3.heap.size, rfl, a3, c3, (rob_own HO3.out rfl HR2.out.im.len HR2.out.im.byt).below (below_new1 w3 _), HB3.out.size, below_step HB3.out (below_new1 w3 _), hp_alloc_new w3 _⟩
  case rest =>
    obtain ⟨pb, rfl, HQ⟩ := hcut
    obtain ⟨wb, hwb⟩ : ∃ wb : World, wb = wc := ⟨_, rfl⟩
    subst hwb
    obtain ⟨a3, c3, him, hpbz, hbq, hblk⟩ := HQ.out
    have hbc : Below w.heap.size w wb := below_step (below_step HB1.out HB2.out) hbq
    have hac : AccIs wb w.heap.size ab mb A := accis_mono (HAC.out.below hbq) HB1.out.size
    obtain ⟨O4, P4, F4, hkeep⟩ := peer_new HCL.out HFR.out.1 hbc (Nat.le_trans (below_step HB1.out HB2.out).size hpbz) hblk hac him
    have hsz : w.heap.size < w1.heap.size := by rw [← HSB.out]; exact (kit.blk HN1.out).2.2
    have h12 := HB2.out.size
    have hsbo : O4 sb = ro := by
      rw [hkeep sb (by rw [HSB.out]; omega) (by rw [HSB.out]; omega) (by rw [HSB.out]; omega), HSB.out]
      exact HCL.out _ (Nat.le_refl _)
    obtain ⟨M0, hM0⟩ : ∃ M0 : PM, M0 = bare node nodes ab mb A S.p1 S.p2 0 ⟨a3, c3, S.im.l⟩ := ⟨_, rfl⟩
    rw [← hM0] at P4
    have hnsc := hp_step HN2.out hbq
    have hL0 : LoopN wb O4 i pb M0 S sb wb 0 := by
      refine ⟨sl0, sl0, by simp [sl0], by simp [sl0], ?_, hnsc⟩
      have e : ({ M0 with en := sl0, ch := sl0 } : PM) = M0 := by rw [hM0]; rfl
      rw [e]
      exact ⟨O4, P4, Fr.refl _ P4.clean⟩
    have hmine : ∀ k, k < w1.heap.size → ¬ Mine i (O4 k) := by
      intro k hk
      have hs1 : w1.heap.size = w.heap.size + 1 := by rw [HW1.out, size_new]
      rcases (by omega : k < w.heap.size ∨ k = w.heap.size) with hk | rfl
      · rw [F4.own k hk]; exact fun hh => HFR.out.2 k hh.1
      · rw [← HSB.out, hsbo]; exact fun hh => HFR.out.1 hh.1.symm
    have hb1c : Below w1.heap.size w1 wb := below_step HB2.out hbq
    obtain ⟨y0, y1, y2, y3, y4, y5, yz⟩ := HX.out wb hnsc
    have HP4 := Lib.hid P4
    have HF4 := Lib.hid F4
    have HL0 := Lib.hid hL0
    have HPW := Lib.hid (Nat.le_trans (below_step HB1.out HB2.out).size hpbz)
    have HSZ := Lib.hid (kit.blk hnsc).2.2
    have HSO := Lib.hid hsbo
    have HMI := Lib.hid hmine
    have HB1C := Lib.hid hb1c
    have HM0 := Lib.hid hM0
    obtain ⟨ne, hne⟩ : ∃ ne, ne = S.en.l.length := ⟨_, rfl⟩
    have HNE := Lib.hid hne
    obtain ⟨j0, hj, hy0, hy1, hy2⟩ := info_parts infoEnt
    rw [← hne] at y5
    clear HQ him hpbz hbq hblk hbc hac P4 F4 hkeep hsz h12 hsbo hM0 hnsc hL0 hmine hb1c hne HCN HR2 HBD HN2
    rw [← HNE.out]
    go_wp2_with fail
    go_loopw [39] (fun t wr => ∃ k : Nat, k ≤ ne ∧ t = .int .i64 k ∧ Hid (LoopN wb O4 i pb M0 S sb wr k)) (fun t _ => ne - (RowKit.intOf t).toNat)
    case atStart => exact ⟨0, Nat.zero_le _, rfl, HL0⟩
    case round =>
      obtain ⟨k, hk, rfl, HL⟩ := hrel
      obtain ⟨s1, s2, e1, e2, ⟨O5, P5, F5⟩, hsb5⟩ := HL.out
      obtain ⟨z0, z1, z2, z3, z4, z5, zz⟩ := HX.out wr hsb5
      rw [← HNE.out] at z5
      by_cases hlt : k < ne
      · have hki : (k : Int) < (ne : Int) := by omega
        have hkl : k < S.en.l.length := by rw [← HNE.out]; exact hlt
        have hbr : Below w1.heap.size w1 wr := HB1C.out.trans (F5.below HB1C.out.size HMI.out)
        obtain ⟨g, off, hga, hgz, g0, g1⟩ := (HR1.out.below hbr).en.cells k hkl
        have hxr := (HR1.out.below hbr).eb _ (List.getElem_mem hkl)
        obtain ⟨x, hx⟩ : ∃ x : Et, x = S.en.l[k] := ⟨_, rfl⟩
        rw [← hx] at g0 g1 hxr
        obtain rfl : ea = some ⟨g, off, none⟩ := HEA.out.trans hga
        have hw9 : IntKind.i64.wrap ((k : Int) + 1) = (k : Int) + 1 := IntWalk.i64_in _ (by have := HS.out.len; omega)
        obtain ⟨w5, hw5⟩ : ∃ w5 : World, w5 = wr.alloc (.cells #[.int .i64 x.s, .slice x.a x.l.length x.c] 47) := ⟨_, rfl⟩
        have hb5 : Below wr.heap.size wr w5 := by rw [hw5]; exact below_new1 _ _
        have hn5 : w5.heap[wr.heap.size]? = some (.cells #[.int .i64 x.s, .slice x.a x.l.length x.c] 47 (0, 0)) := by rw [hw5]; exact hp_alloc_new _ _
        obtain ⟨xb, hxb⟩ : ∃ xb, xb = wr.heap.size := ⟨_, rfl⟩
        rw [← hxb] at hn5
        have P5a := PeerAt.below P5 hb5
        have hxo : O5 xb = ro := by rw [hxb]; exact P5.clean _ (Nat.le_refl _)
        obtain ⟨q0, q1, -, -, qz⟩ := blk2 hn5
        have x9 : w5.cell? ⟨pb, 9, none⟩ = some (.slice s1.a s1.l.length s1.c) := (kit.blk P5a.blk).1 9
        have hpz := (kit.blk P5a.blk).2.2
        have hbd : Below w5.heap.size w5 w5.drew := below_drewN (Below.refl _ w5) 1
        have hx5 := hxr.below hb5
        have HOW := Lib.hid (own_ok w5.drew x.s ⟨x.a, x.c, x.l⟩ (hx5.below hbd).lie hx5.nil hx5.len hx5.byt)
        have HRE := Lib.hid (P5a.parts.ent (fun x => x)).row.row
        have hl1 : s1.l.length ≤ 1000000000 := by have h1 := congrArg List.length e1; rw [List.length_map, List.length_take, List.length_map] at h1; have := HS.out.len; omega
        have hl2 : s2.l.length ≤ 1000000000 := by have h1 := congrArg List.length e2; rw [List.length_map, List.length_take, List.length_map] at h1; have := HS.out.len; omega
        obtain ⟨M5, hM5⟩ : ∃ M5 : PM, M5 = { M0 with en := s1, ch := s2 } := ⟨_, rfl⟩
        have hme : M5.en = s1 := by rw [hM5]
        rw [← hM5] at P5a
        have HP5 := Lib.hid P5a
        have HF5 := Lib.hid (F5.trans (Fr.of_below P5.clean hb5))
        have HME := Lib.hid hme
        have HM5 := Lib.hid hM5
        have HXO := Lib.hid hxo
        have HN5 := Lib.hid hn5
        have HX5 := Lib.hid hx5
        have HSB5 := Lib.hid (hp_step hsb5 hb5)
        have HE1 := Lib.hid e1
        have HE2 := Lib.hid e2
        have HW5 := Lib.hid hw5
        have HXB := Lib.hid hxb
        have HXX := Lib.hid hx
        have HL1 := Lib.hid hl1
        have HL2 := Lib.hid hl2
        clear P5 F5 hsb5 HL hbr hxr hx hb5 hn5 P5a hxo hbd hx5 hM5 hme e1 e2 hw5 hxb hga
        go_upto_region 8 with fail
        rw [← HW5.out, ← HXB.out]
        go_cut [] from 43 to 54 (fun wx => ∃ (a9 : Option Addr) (c9 : Nat) (a2 : Option Addr) (c2 : Nat), Hid (Behind w5 O5 i pb (Sf i 3) wx { M5 with en := ⟨a9, c9, M5.en.l ++ [⟨x.s, x.l, a2, c2⟩]⟩ }))
        case first =>
          go_region_law (first | (go_simp; go_at_call 15; refine HOW.out.mono ?_; rintro e w6 ⟨a2, c2, rfl, hrb2, hb2⟩; have HRB2 := Lib.hid hrb2; have HB6 := Lib.hid (below_step (below_drewN (Below.refl _ w5) 1) hb2); have z9 := cell_step (W := w5.drew) x9 hb2; have z9' : ∀ o : Obj, (w6.alloc o).cell? ⟨pb, 9, none⟩ = some (.slice s1.a s1.l.length s1.c) := fun o => cell_step z9 (below_new1 _ o); clear hrb2 hb2) | (refine step_append_at rfl (.tmp 47) (.tmp 50) 31 rfl 0 47 j0 _ 2 32 Tryz.underlying31 hj hy0 hy1 hy2 rfl (by decide) (.slice s1.a s1.l.length s1.c) s1.l.length (s1.l.flatMap Et.cells) rfl ((own_below HRE.out HB6.out).alloc _) ⟨w6.heap.size, 0, none⟩ 1 1 [.int .i64 x.s, .slice a2 x.l.length c2] rfl rfl (lie_list w6 47 [.int .i64 x.s, .slice a2 x.l.length c2]) (by simp [Value.oneCell']) (by unfold maxLen; omega) (by omega) (Nat.zero_le _) ?_; intro v7 w7 hown hgr hat; obtain ⟨a7, c7, rfl⟩ := own_shape hown; obtain ⟨hF1, ⟨vo, hF3⟩, hF4⟩ := en_fin (M := M5) (e := ⟨x.s, x.l, a2, c2⟩) HP5.out (HRB2.out.below (below_new1 w6 _)) (below_step HB6.out (below_new1 w6 _)) (by rw [HME.out]; exact hown) (by rw [HME.out]; exact hgr) (by rw [HME.out]; exact hat); rw [HME.out] at hF1; have HF := Lib.hid hF1; clear hF1 hown hgr hat))
          all_goals
            go_wp2_with fail
            go_meet
            case rel => exact ⟨a7, c7, a2, c2, by rw [HME.out]; exact HF.out⟩
        case rest =>
          obtain ⟨a9, c9, a2, c2, HX9⟩ := hcut
          obtain ⟨wd, hwd⟩ : ∃ wd : World, wd = wc := ⟨_, rfl⟩
          subst hwd
          obtain ⟨O6, P6, F6⟩ := HX9.out
          obtain ⟨M6, hM6⟩ : ∃ M6 : PM, M6 = { M5 with en := ⟨a9, c9, M5.en.l ++ [⟨x.s, x.l, a2, c2⟩]⟩ } := ⟨_, rfl⟩
          have hmc : M6.ch = s2 := by rw [hM6, HM5.out]
          rw [← hM6] at P6
          have hn6 := F6.hp HN5.out (by rw [HXO.out]; exact sf_ro P6.me)
          obtain ⟨q0, q1, -, -, qz⟩ := blk2 hn6
          have x55 : wd.cell? ⟨pb, 55, none⟩ = some (.slice s2.a s2.l.length s2.c) := by
            have h1 := (kit.blk P6.blk).1 55
            have h2 : (pcells M6)[55]? = some M6.ch.val := rfl
            rw [h1, h2, hmc]; rfl
          have hpz6 := (kit.blk P6.blk).2.2
          have hbd : Below wd.heap.size wd wd.drew := below_drewN (Below.refl _ wd) 1
          have hx6 := HX5.out.fr F6
          have HOW6 := Lib.hid (own_ok wd.drew x.s ⟨x.a, x.c, x.l⟩ (hx6.below hbd).lie hx6.nil hx6.len hx6.byt)
          have hre := (P6.parts.chs (fun x => x)).row.row
          rw [hmc] at hre
          have HRE6 := Lib.hid hre
          have HP6 := Lib.hid P6
          have HF6 := Lib.hid F6
          have HM6 := Lib.hid hM6
          have HMC := Lib.hid hmc
          clear HX9 P6 F6 hM6 hmc hn6 hbd hx6 hre x9 HOW HRE
          go_upto_region 9 with fail
          go_region_law (first | (go_simp; go_at_call 15; refine HOW6.out.mono ?_; rintro e w7 ⟨a5, c5, rfl, hrb2, hb2⟩; have HRB2 := Lib.hid hrb2; have HB7 := Lib.hid (below_step (below_drewN (Below.refl _ wd) 1) hb2); have z9 := cell_step (W := wd.drew) x55 hb2; have z9' : ∀ o : Obj, (w7.alloc o).cell? ⟨pb, 55, none⟩ = some (.slice s2.a s2.l.length s2.c) := fun o => cell_step z9 (below_new1 _ o); clear hrb2 hb2) | (refine step_append_at rfl (.tmp 59) (.tmp 62) 31 rfl 0 47 j0 _ 2 32 Tryz.underlying31 hj hy0 hy1 hy2 rfl (by decide) (.slice s2.a s2.l.length s2.c) s2.l.length (s2.l.flatMap Et.cells) rfl ((own_below HRE6.out HB7.out).alloc _) ⟨w7.heap.size, 0, none⟩ 1 1 [.int .i64 x.s, .slice a5 x.l.length c5] rfl rfl (lie_list w7 47 [.int .i64 x.s, .slice a5 x.l.length c5]) (by simp [Value.oneCell']) (by unfold maxLen; omega) (by omega) (Nat.zero_le _) ?_; intro v8 w8 hown hgr hat; obtain ⟨a8, c8, rfl⟩ := own_shape hown; obtain ⟨hF1, ⟨vo, hF3⟩, hF4⟩ := ch_fin (M := M6) (e := ⟨x.s, x.l, a5, c5⟩) HP6.out (HRB2.out.below (below_new1 w7 _)) (below_step HB7.out (below_new1 w7 _)) (by rw [HMC.out]; exact hown) (by rw [HMC.out]; exact hgr) (by rw [HMC.out]; exact hat); rw [HMC.out] at hF1; have HF := Lib.hid hF1; clear hF1 hown hgr hat))
          all_goals
            obtain ⟨O7, P7, F7⟩ := HF.out
            obtain ⟨wl, hwl⟩ : ∃ wl : World, wl = w8.setCell ⟨pb, 55, none⟩ (.slice a8 (s2.l.length + 1) c8) := ⟨_, rfl⟩
            rw [← hwl] at P7 F7 ⊢
            have hLN : LoopN wb O4 i pb M0 S sb wl (k + 1) := by
              refine ⟨⟨a9, c9, s1.l ++ [⟨x.s, x.l, a2, c2⟩]⟩, ⟨a8, c8, s2.l ++ [⟨x.s, x.l, a5, c5⟩]⟩, ?_, ?_, ⟨O7, ?_, HF5.out.trans ((HF6.out.mono sf_mine).trans (F7.mono sf_mine))⟩, ?_⟩
              · rw [List.map_append, HE1.out, List.take_succ_eq_append_getElem (by rw [List.length_map]; exact hkl), List.getElem_map, ← HXX.out]; rfl
              · rw [List.map_append, HE2.out, List.take_succ_eq_append_getElem (by rw [List.length_map]; exact hkl), List.getElem_map, ← HXX.out]; rfl
              · have e : ({ M6 with ch := ⟨a8, c8, s2.l ++ [⟨x.s, x.l, a5, c5⟩]⟩ } : PM) = { M0 with en := ⟨a9, c9, s1.l ++ [⟨x.s, x.l, a2, c2⟩]⟩, ch := ⟨a8, c8, s2.l ++ [⟨x.s, x.l, a5, c5⟩]⟩ } := by rw [HM6.out, HME.out, HM5.out]
                rw [e] at P7; exact P7
              · have h5 : O5 sb = ro := by
                  rw [HF5.out.own sb HSZ.out]; exact HSO.out
                exact F7.hp (HF6.out.hp HSB5.out (by rw [h5]; exact sf_ro P7.me)) (by rw [HF6.out.own sb (kit.blk HSB5.out).2.2, h5]; exact sf_ro P7.me)
            have HLN := Lib.hid hLN
            clear P7 F7 hLN hwl
            go_wp2_with fail
            go_roundw
            case rel => exact ⟨k + 1, by omega, by go_num, HLN⟩
            case measure => simp [RowKit.intOf]; omega
      · obtain rfl : k = ne := by omega
        have hle : ¬ (k : Int) < (k : Int) := by omega
        have x7 : wr.cell? ⟨pb, 7, none⟩ = some (.int .i64 0) := by
          have h1 := (kit.blk P5.blk).1 7
          have h2 : (pcells { M0 with en := s1, ch := s2 })[7]? = some (.int .i64 M0.index) := rfl
          rw [h1, h2, HM0.out]; rfl
        have hpz := (kit.blk P5.blk).2.2
        have hd : PM.dat { M0 with en := s1, ch := s2 } = newD node nodes S := by
          have e3 : S.im.l = [] := List.eq_nil_of_length_eq_zero (HS.out.im0 H0.out)
          rw [List.take_of_length_le (by rw [List.length_map, ← HNE.out]; exact Nat.le_refl _)] at e1 e2
          have e4 : PM.dat { M0 with en := s1, ch := s2 } = { PM.dat M0 with entries := s1.l.map le, chosen := s2.l.map le } := rfl
          rw [e4, e1, e2, HM0.out, HA.out]
          unfold newD
          rw [H0.out, e3]
          rfl
        have hfr : Fr (fun _ => False) w O wr O5 := fr_fresh HFR.out ((HF4.out.mono (fun _ hf => hf.elim)).trans F5)
        have hpw : w.heap.size ≤ pb := HPW.out
        have HFI := Lib.hid (And.intro P5 (And.intro hfr (And.intro hd hpw)))
        clear P5 F5 hsb5 e1 e2 hd hfr HL hpw
        go_wp2_with fail
        exact bodyPost_ret (v := .tuple #[.pointer (some ⟨pb, 0, none⟩), .int .i64 0]) (by simp [results, Tryz.results4, go_sem]) rfl (by
          refine ⟨pb, rfl, { M0 with en := s1, ch := s2 }, O5, HFI.out.1, HFI.out.2.1, HFI.out.2.2.1, HFI.out.2.2.2⟩)
end Go.Proofs.YtcaakiaenfkeaaaGreat.penw
