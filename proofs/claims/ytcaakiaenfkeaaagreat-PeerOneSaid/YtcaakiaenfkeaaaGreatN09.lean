/-
  chosen: an entry is known to be chosen.
-/
import Derived.Test.YtcaakiaenfkeaaaGreatN08
import Derived.Deep.CutBlock
import Derived.Test.YtcaakiaenfkeaaaGreatN04
namespace Go.Proofs.YtcaakiaenfkeaaaGreat.pec
open Go.ChangeShapes Go.WideShapes Go.ChangeAt Go.RowKit
open Go.Proofs.YtcaakiaenfkeaaaGreat.kit Go.Proofs.YtcaakiaenfkeaaaGreat.mapkit Go.Proofs.YtcaakiaenfkeaaaGreat.byt Go.Proofs.YtcaakiaenfkeaaaGreat.own Go.Proofs.YtcaakiaenfkeaaaGreat.accd Go.Proofs.YtcaakiaenfkeaaaGreat.accb Go.Proofs.YtcaakiaenfkeaaaGreat.acce Go.Proofs.YtcaakiaenfkeaaaGreat.chd Go.Proofs.YtcaakiaenfkeaaaGreat.che Go.Proofs.YtcaakiaenfkeaaaGreat.ownr Go.Proofs.YtcaakiaenfkeaaaGreat.pep Go.Proofs.YtcaakiaenfkeaaaGreat.peb Go.Proofs.YtcaakiaenfkeaaaGreat.pem Go.Proofs.YtcaakiaenfkeaaaGreat.pen Go.Proofs.YtcaakiaenfkeaaaGreat.pes
set_option linter.unusedVariables false
set_option linter.unusedSimpArgs false
set_option maxHeartbeats 4000000
set_option maxRecDepth 100000

theorem infoEnt : (Tryz.prog.info? 47).map (fun i => (i.zero, i.size, i.bytes)) = some (some (.agg #[.int .i64 0, .slice none 0 0]), 2, 32) := by kernel_rfl
theorem still_ent : ¬ Still 47 := by rintro (e | e) <;> exact absurd e (by decide)
theorem ent_app {w : World} {O : Owners} {t : Tag} {a5 : Option Addr} {c5 : Nat} {l : List Et} {e : Et} {S : Tag → Prop} {w0 : World} {O0 : Owners} (h : ∀ x ∈ l, RoB w0 ⟨x.a, x.c, x.l⟩) (he : RoB w ⟨e.a, e.c, e.l⟩) (F : Fr S w0 O0 w O)
    (hR : Row w O t 47 2 a5 c5 (l.length + 1) (l.flatMap Et.cells ++ e.cells)) : RowEn w O t ⟨a5, c5, l ++ [e]⟩ := by
  refine ⟨?_, fun x hx => ?_⟩
  · show Row _ O t _ 2 a5 c5 (l ++ [e]).length ((l ++ [e]).flatMap Et.cells)
    rw [List.length_append, List.length_singleton, List.flatMap_append, List.flatMap_singleton]; exact hR
  · rcases List.mem_append.1 hx with hx | hx
    · exact (h x hx).fr F
    · rw [List.mem_singleton.1 hx]; exact he
theorem en_fin {w W2 w5 : World} {O : Owners} {i pb c5 : Nat} {M : PM} {a5 : Option Addr} {e : Et} (h : PeerAt w O i pb M) (he : RoB W2 ⟨e.a, e.c, e.l⟩) (hb : Below w.heap.size w W2)
    (hown : w5.ownsRow 0 47 2 (.slice a5 (M.en.l.length + 1) c5) (M.en.l.length + 1) (M.en.l.flatMap Et.cells ++ e.cells)) (hg : W2.grownBy w5 (Value.slice M.en.a M.en.l.length M.en.c).ownBlock)
    (hat : ∀ k, (Value.slice a5 (M.en.l.length + 1) c5).ownBlock = some k → (Value.slice M.en.a M.en.l.length M.en.c).ownBlock = some k ∨ W2.heap.size ≤ k) :
    Behind w O i pb (Sf i 3) (w5.setCell ⟨pb, 9, none⟩ (.slice a5 (M.en.l.length + 1) c5)) { M with en := ⟨a5, c5, M.en.l ++ [e]⟩ } ∧ (∃ v, w5.cell? ⟨pb, 9, none⟩ = some v) ∧ w5.frozen? ⟨pb, 9, none⟩ = false := by
  have h2 := PeerAt.below h hb
  obtain ⟨hr, hbd⟩ := h2.parts.ent (fun x => x)
  obtain ⟨⟨O2, hR, F, hblk, htag, hP⟩, h3, h4⟩ := peer_app (k := 9) h2 (Below.refl _ W2) hr still_ent (by decide) (by decide) hown hg hat
  refine ⟨⟨O2, ⟨F.clean, h.me, ?_, htag, ?_⟩, (Fr.of_below h.clean hb).trans F⟩, h3, h4⟩
  · rw [hblk]
    have e1 : (pcells M).setIfInBounds 9 (.slice a5 (M.en.l.length + 1) c5) = pcells { M with en := ⟨a5, c5, M.en.l ++ [e]⟩ } := by
      simp only [pcells, Sl.val, List.length_append, List.length_singleton]; rfl
    rw [e1]
  · exact {
      acc := fun _ => hP.acc (by decide)
      ent := fun _ => ent_app hbd (he.fr F) F hR
      opn := fun _ => hP.opn (by decide)
      tdo := fun _ => hP.tdo (by decide)
      nts := fun _ => hP.nts (by decide)
      lts := fun _ => hP.lts (by decide)
      chs := fun _ => hP.chs (by decide)
      prm := fun j hj _ => hP.prm j hj (by omega)
      box := fun j hj _ => hP.box j hj (by omega)
      img := hP.img
      rim := hP.rim }
theorem ch_fin {w W2 w5 : World} {O : Owners} {i pb c5 : Nat} {M : PM} {a5 : Option Addr} {e : Et} (h : PeerAt w O i pb M) (he : RoB W2 ⟨e.a, e.c, e.l⟩) (hb : Below w.heap.size w W2)
    (hown : w5.ownsRow 0 47 2 (.slice a5 (M.ch.l.length + 1) c5) (M.ch.l.length + 1) (M.ch.l.flatMap Et.cells ++ e.cells)) (hg : W2.grownBy w5 (Value.slice M.ch.a M.ch.l.length M.ch.c).ownBlock)
    (hat : ∀ k, (Value.slice a5 (M.ch.l.length + 1) c5).ownBlock = some k → (Value.slice M.ch.a M.ch.l.length M.ch.c).ownBlock = some k ∨ W2.heap.size ≤ k) :
    Behind w O i pb (Sf i 8) (w5.setCell ⟨pb, 55, none⟩ (.slice a5 (M.ch.l.length + 1) c5)) { M with ch := ⟨a5, c5, M.ch.l ++ [e]⟩ } ∧ (∃ v, w5.cell? ⟨pb, 55, none⟩ = some v) ∧ w5.frozen? ⟨pb, 55, none⟩ = false := by
  have h2 := PeerAt.below h hb
  obtain ⟨hr, hbd⟩ := h2.parts.chs (fun x => x)
  obtain ⟨⟨O2, hR, F, hblk, htag, hP⟩, h3, h4⟩ := peer_app (k := 55) h2 (Below.refl _ W2) hr still_ent (by decide) (by decide) hown hg hat
  refine ⟨⟨O2, ⟨F.clean, h.me, ?_, htag, ?_⟩, (Fr.of_below h.clean hb).trans F⟩, h3, h4⟩
  · rw [hblk]
    have e1 : (pcells M).setIfInBounds 55 (.slice a5 (M.ch.l.length + 1) c5) = pcells { M with ch := ⟨a5, c5, M.ch.l ++ [e]⟩ } := by
      simp only [pcells, Sl.val, List.length_append, List.length_singleton]; rfl
    rw [e1]
  · exact {
      acc := fun _ => hP.acc (by decide)
      ent := fun _ => hP.ent (by decide)
      opn := fun _ => hP.opn (by decide)
      tdo := fun _ => hP.tdo (by decide)
      nts := fun _ => hP.nts (by decide)
      lts := fun _ => hP.lts (by decide)
      chs := fun _ => ent_app hbd (he.fr F) F hR
      prm := fun j hj _ => hP.prm j hj (by omega)
      box := fun j hj _ => hP.box j hj (by omega)
      img := hP.img
      rim := hP.rim }
/-- The member behind chosen, but where things lie. -/
def Chose (M : PM) (s : Int) (d : List Nat) (M' : PM) : Prop := ∃ (x1 x2 x3 : Option Addr × Nat) (a1 a2 a3 : Option Addr × Nat), M' = PM.settled { M with en := ⟨x1.1, x1.2, M.en.l ++ [⟨s, d, a1.1, a1.2⟩]⟩, ch := ⟨x2.1, x2.2, M.ch.l ++ [⟨s, d, a2.1, a2.2⟩]⟩, nt := ⟨x3.1, x3.2, M.nt.l ++ [⟨3, 0, 0, ⟨0, 0, 0, [], none, 0⟩, ⟨s, d, a3.1, a3.2⟩⟩]⟩ }
theorem chose_dat {M M' : PM} {s : Int} {d : List Nat} (h : Chose M s d M') : M'.dat = M.dat.chose s d := by
  obtain ⟨x1, x2, x3, a1, a2, a3, rfl⟩ := h
  rw [settled_dat]
  unfold PD.chose
  congr 1
  simp only [PM.dat, List.map_append, List.map_singleton]
  rfl
theorem hRBc {w w' : World} {O O' : Owners} {S : Tag → Prop} {b : Sl Nat} (h : RoB w b) (F : Fr S w O w' O') : RoB w' b := h.fr F
theorem chosen_ok (w : World) (O : Owners) (i pb : Nat) (M : PM) (s : Int) (b : Sl Nat) (h : PeerAt w O i pb M) (hb : RoB w b) (h1 : 0 ≤ M.index ∧ M.index ≤ 4398046511104) (h2 : M.en.l.length ≤ 1000000000) (h2c : M.ch.l.length ≤ 1000000000) (h2n : M.nt.l.length ≤ 1000000000) (h3 : M.leads = true → ∃ x, M.ob = some x) :
    Calls Tryz.prog 55 #[.pointer (some ⟨pb, 0, none⟩), .agg #[.int .i64 s, .slice b.a b.l.length b.c]] w fun e w' => e = .returned (.tuple #[]) ∧ ∃ M', Chose M s b.l M' ∧ Behind w O i pb (Mine i) w' M' := by
  obtain ⟨j0, hj, hy0, hy1, hy2⟩ := info_parts infoEnt
  have HP := Lib.hid h
  have HRB := Lib.hid hb
  have H3 := Lib.hid h3
  obtain ⟨w1, hw1⟩ : ∃ w1, w1 = w.alloc (.cells #[.int .i64 s, .slice b.a b.l.length b.c] 47) := ⟨_, rfl⟩
  have hb1 : Below w.heap.size w w1 := by rw [hw1]; exact below_new1 _ _
  have hn1 : w1.heap[w.heap.size]? = some (.cells #[.int .i64 s, .slice b.a b.l.length b.c] 47 (0, 0)) := by rw [hw1]; exact hp_alloc_new _ _
  have P1 := PeerAt.below h hb1
  have HP1 := Lib.hid P1
  have HN1 := Lib.hid hn1
  have HB1 := Lib.hid hb1
  obtain ⟨eb, heb⟩ : ∃ eb, eb = w.heap.size := ⟨_, rfl⟩
  have HEB := Lib.hid heb
  obtain ⟨q0, q1, -, -, qz⟩ := blk2 hn1
  rw [← heb] at q0 q1 qz
  have x9 : w1.cell? ⟨pb, 9, none⟩ = some (.slice M.en.a M.en.l.length M.en.c) := (kit.blk P1.blk).1 9
  have hpz := (kit.blk P1.blk).2.2
  have hbd : Below w1.heap.size w1 w1.drew := below_drewN (Below.refl _ w1) 1
  have HOW := Lib.hid (own_ok w1.drew s b ((hb.below hb1).below hbd).lie hb.nil hb.len hb.byt)
  have HRE := Lib.hid (P1.parts.ent (fun x => x)).row.row
  have HW1 := Lib.hid hw1
  have HEO : Hid (¬ Sf i 3 (O w.heap.size)) := by show ¬ Sf i 3 (O w.heap.size); rw [h.clean w.heap.size (Nat.le_refl _)]; exact sf_ro h.me
  clear h hb hb1 hn1 P1 h3 hbd hw1 heb
  go_enter Tryz.func55, Tryz.ntmps55
  go_upto_region 1 with fail
  rw [← HW1.out, ← HEB.out]
  go_cut [] from 4 to 14 (fun wx => ∃ (a9 : Option Addr) (c9 : Nat) (a2 : Option Addr) (c2 : Nat), Hid (Behind w1 O i pb (Sf i 3) wx { M with en := ⟨a9, c9, M.en.l ++ [⟨s, b.l, a2, c2⟩]⟩ } ∧ wx.heap[w.heap.size]? = some (.cells #[.int .i64 s, .slice b.a b.l.length b.c] 47 (0, 0))))
  case first =>
    go_region_law (first | (go_simp; go_at_call 15; refine HOW.out.mono ?_; rintro e w2 ⟨a2, c2, rfl, hrb2, hb2⟩; have HRB2 := Lib.hid hrb2; have HB2 := Lib.hid (below_step (below_drewN (Below.refl _ w1) 1) hb2); have z9 := cell_step (W := w1.drew) x9 hb2; have z9' : ∀ o : Obj, (w2.alloc o).cell? ⟨pb, 9, none⟩ = some (.slice M.en.a M.en.l.length M.en.c) := fun o => cell_step z9 (below_new1 _ o); clear hrb2 hb2) | (refine step_append_at rfl (.tmp 8) (.tmp 11) 31 rfl 0 47 j0 _ 2 32 Tryz.underlying31 hj hy0 hy1 hy2 rfl (by decide) (.slice M.en.a M.en.l.length M.en.c) M.en.l.length (M.en.l.flatMap Et.cells) rfl ((own_below HRE.out HB2.out).alloc _) ⟨w2.heap.size, 0, none⟩ 1 1 [.int .i64 s, .slice a2 b.l.length c2] rfl rfl (lie_list w2 47 [.int .i64 s, .slice a2 b.l.length c2]) (by simp [Value.oneCell']) (by unfold maxLen; omega) (by omega) (Nat.zero_le _) ?_; intro v5 w5 hown hgr hat; obtain ⟨a5, c5, rfl⟩ := own_shape hown; obtain ⟨hF1, ⟨vo, hF3⟩, hF4⟩ := en_fin (e := ⟨s, b.l, a2, c2⟩) HP1.out (HRB2.out.below (below_new1 w2 _)) (below_step HB2.out (below_new1 w2 _)) hown hgr hat; have hBX := (show ∃ O', PeerAt _ O' i pb _ ∧ Fr (Sf i 3) w1 O _ O' from hF1); obtain ⟨O5, -, F5⟩ := hBX; have HF := Lib.hid (And.intro hF1 (F5.hp HN1.out HEO.out)); clear hF1 hown hgr hat F5))
    all_goals
      go_wp2_with fail
      go_meet
      case rel => exact ⟨a5, c5, a2, c2, HF.out⟩
  case rest =>
    obtain ⟨a9, c9, ea1, ec1, HX⟩ := hcut
    obtain ⟨⟨O2, P2, F2⟩, hn2⟩ := HX.out
    obtain ⟨M2, hM2⟩ : ∃ M2 : PM, M2 = { M with en := ⟨a9, c9, M.en.l ++ [⟨s, b.l, ea1, ec1⟩]⟩ } := ⟨_, rfl⟩
    rw [← hM2] at P2
    have hch : M2.ch = M.ch := by rw [hM2]
    have F02 : Fr (Mine i) w O wc O2 := (Fr.of_below HP.out.clean HB1.out).trans (F2.mono sf_mine)
    have HF02 := Lib.hid F02
    have HEO2 : Hid (¬ Sf i 8 (O2 w.heap.size)) := by
      show ¬ Sf i 8 (O2 w.heap.size)
      rw [F2.own w.heap.size (by rw [← HEB.out]; exact qz), HP.out.clean w.heap.size (Nat.le_refl _)]; exact sf_ro HP.out.me
    obtain ⟨q0, q1, -, -, qz⟩ := blk2 hn2
    rw [← HEB.out] at q0 q1 qz
    have x55 : wc.cell? ⟨pb, 55, none⟩ = some (.slice M.ch.a M.ch.l.length M.ch.c) := by
      have e : wc.cell? ⟨pb, 55, none⟩ = some (.slice M2.ch.a M2.ch.l.length M2.ch.c) := (kit.blk P2.blk).1 55
      rw [hch] at e; exact e
    have hpz := (kit.blk P2.blk).2.2
    have HRC := (P2.parts.chs (fun x => x)).row.row
    rw [hch] at HRC
    have hbd : Below wc.heap.size wc wc.drew := below_drewN (Below.refl _ wc) 1
    have HRB2 := Lib.hid (hRBc HRB.out F02)
    have HOW2 := Lib.hid (own_ok wc.drew s b ((HRB2.out.below hbd)).lie HRB.out.nil HRB.out.len HRB.out.byt)
    have HRE2 := Lib.hid HRC
    have HN2 := Lib.hid hn2
    have HP2 := Lib.hid P2
    have HM2 := Lib.hid hM2
    have HCH := Lib.hid hch
    clear HX P2 F2 hn2 hM2 hch F02 HRC hbd x9 HOW HRE HW1 HN1 HEO HB1 HP1
    go_upto_region 2 with fail
    go_cut [] from 15 to 27 (fun wx => ∃ (a9 : Option Addr) (c9 : Nat) (a2 : Option Addr) (c2 : Nat), Hid (Behind wc O2 i pb (Sf i 8) wx { M2 with ch := ⟨a9, c9, M2.ch.l ++ [⟨s, b.l, a2, c2⟩]⟩ } ∧ wx.heap[w.heap.size]? = some (.cells #[.int .i64 s, .slice b.a b.l.length b.c] 47 (0, 0))))
    case first =>
      go_region_law (first | (go_simp; go_at_call 15; refine HOW2.out.mono ?_; rintro e w2 ⟨a2, c2, rfl, hrb2, hb2⟩; have HRB3 := Lib.hid hrb2; have HB2 := Lib.hid (below_step (below_drewN (Below.refl _ wc) 1) hb2); have z9 := cell_step (W := wc.drew) x55 hb2; have z9' : ∀ o : Obj, (w2.alloc o).cell? ⟨pb, 55, none⟩ = some (.slice M.ch.a M.ch.l.length M.ch.c) := fun o => cell_step z9 (below_new1 _ o); clear hrb2 hb2) | (refine step_append_at rfl (.tmp 20) (.tmp 23) 31 rfl 0 47 j0 _ 2 32 Tryz.underlying31 hj hy0 hy1 hy2 rfl (by decide) (.slice M.ch.a M.ch.l.length M.ch.c) M.ch.l.length (M.ch.l.flatMap Et.cells) rfl ((own_below HRE2.out HB2.out).alloc _) ⟨w2.heap.size, 0, none⟩ 1 1 [.int .i64 s, .slice a2 b.l.length c2] rfl rfl (lie_list w2 47 [.int .i64 s, .slice a2 b.l.length c2]) (by simp [Value.oneCell']) (by unfold maxLen; omega) (by omega) (Nat.zero_le _) ?_; intro v5 w5 hown hgr hat; obtain ⟨a5, c5, rfl⟩ := own_shape hown; obtain ⟨hF1, ⟨vo, hF3⟩, hF4⟩ := ch_fin (M := M2) (e := ⟨s, b.l, a2, c2⟩) HP2.out (HRB3.out.below (below_new1 w2 _)) (below_step HB2.out (below_new1 w2 _)) (by rw [HCH.out]; exact hown) (by rw [HCH.out]; exact hgr) (by rw [HCH.out]; exact hat); rw [HCH.out] at hF1; have hBX := (show ∃ O', PeerAt _ O' i pb _ ∧ Fr (Sf i 8) wc O2 _ O' from hF1); obtain ⟨O5, -, F5⟩ := hBX; have HF := Lib.hid (And.intro hF1 (F5.hp HN2.out HEO2.out)); clear hF1 hown hgr hat F5))
      all_goals
        go_wp2_with fail
        go_meet
        case rel => exact ⟨a5, c5, a2, c2, by rw [HCH.out]; exact HF.out⟩
    case rest =>
      obtain ⟨a10, c10, ea2, ec2, HX⟩ := hcut
      obtain ⟨⟨O3, P3, F3⟩, hn3⟩ := HX.out
      obtain ⟨M3, hM3⟩ : ∃ M3 : PM, M3 = { M2 with ch := ⟨a10, c10, M2.ch.l ++ [⟨s, b.l, ea2, ec2⟩]⟩ } := ⟨_, rfl⟩
      rw [← hM3] at P3
      have F03 : Fr (Mine i) w O wc O3 := HF02.out.trans (F3.mono sf_mine)
      obtain ⟨r0, r1, -, -, rz⟩ := blk2 hn3
      rw [← HEB.out] at r0 r1 rz
      have HOW3 := Lib.hid (own_ok wc s b (hRBc HRB.out F03).lie HRB.out.nil HRB.out.len HRB.out.byt)
      have hnt : M3.nt = M.nt := by rw [hM3, HM2.out]
      have HP3 := Lib.hid P3
      have HF03 := Lib.hid F03
      have HM3 := Lib.hid hM3
      have HNT := Lib.hid hnt
      clear HX P3 F3 hn3 hM3 F03 x55 HOW2 HRE2 HN2 HEO2 hnt q0 q1
      go_upto_region 4 with (first | (go_at_call 15; refine HOW3.out.mono ?_; rintro e w4 ⟨a4, c4, rfl, hrb4, hb4⟩; have HP4 := Lib.hid (PeerAt.below HP3.out hb4); have HF04 := Lib.hid (HF03.out.trans (Fr.of_below HP3.out.clean hb4)); have HNO := Lib.hid (note_ok w4 O3 i pb M3 ⟨3, 0, 0, ⟨0, 0, 0, [], none, 0⟩, ⟨s, b.l, a4, c4⟩⟩ HP4.out ⟨rob_nil w4, hrb4⟩ (by rw [HNT.out]; exact h2n)); clear hrb4 hb4; simp only [nval] at HNO) | (go_at_call 22; refine HNO.out.mono ?_; rintro e w5 ⟨rfl, c5, a5, hL5⟩; have HL5 := Lib.hid hL5; clear hL5))
      obtain ⟨O5, P5, F5⟩ := HL5.out
      obtain ⟨M5, hM5⟩ : ∃ M5 : PM, M5 = { M3 with nt := ⟨a5, c5, M3.nt.l ++ [⟨3, 0, 0, ⟨0, 0, 0, [], none, 0⟩, ⟨s, b.l, a4, c4⟩⟩]⟩ } := ⟨_, rfl⟩
      rw [← hM5] at P5
      have hM5' : M5 = { M with en := ⟨a9, c9, M.en.l ++ [⟨s, b.l, ea1, ec1⟩]⟩, ch := ⟨a10, c10, M.ch.l ++ [⟨s, b.l, ea2, ec2⟩]⟩, nt := ⟨a5, c5, M.nt.l ++ [⟨3, 0, 0, ⟨0, 0, 0, [], none, 0⟩, ⟨s, b.l, a4, c4⟩⟩]⟩ } := by rw [hM5, HM3.out, HM2.out]
      have HSE := Lib.hid (settled_ok w5 O5 i pb M5 P5 (by rw [hM5']; exact h1) (by rw [hM5']; show (M.en.l ++ [_]).length ≤ _; rw [List.length_append, List.length_singleton]; omega) (by rw [hM5']; exact H3.out))
      have HF05 := Lib.hid (HF04.out.trans (F5.mono sf_mine))
      have HM5 := Lib.hid hM5'
      clear P5 F5 HL5 hM5 hM5' r0 r1 HOW3 HNO
      go_wp2_with fail
      refine HSE.out.mono ?_; rintro e w6 ⟨rfl, O6, P6, F6⟩
      go_wp2_with fail
      refine bodyPost_end (v := .tuple #[]) (by simp [results, Tryz.results55, go_sem]) rfl ⟨rfl, PM.settled M5, ⟨(a9, c9), (a10, c10), (a5, c5), (ea1, ec1), (ea2, ec2), (a4, c4), by rw [HM5.out]⟩, O6, P6, HF05.out.trans F6⟩
end Go.Proofs.YtcaakiaenfkeaaaGreat.pec
/-
  The document's greatest and For.
-/
namespace Go.Proofs.YtcaakiaenfkeaaaGreat.chf
open Go.ChangeShapes Go.WideShapes Go.ChangeAt Go.RowKit
open Go.Proofs.YtcaakiaenfkeaaaGreat.kit Go.Proofs.YtcaakiaenfkeaaaGreat.mapkit Go.Proofs.YtcaakiaenfkeaaaGreat.byt Go.Proofs.YtcaakiaenfkeaaaGreat.own Go.Proofs.YtcaakiaenfkeaaaGreat.accd Go.Proofs.YtcaakiaenfkeaaaGreat.chd Go.Proofs.YtcaakiaenfkeaaaGreat.chb Go.Proofs.YtcaakiaenfkeaaaGreat.chr Go.Proofs.YtcaakiaenfkeaaaGreat.che Go.Proofs.YtcaakiaenfkeaaaGreat.chq
set_option linter.unusedVariables false
set_option linter.unusedSimpArgs false
set_option maxHeartbeats 1000000
set_option maxRecDepth 100000

/-- The document's list as far as it is made. -/
def inP (n : Int) (slot : Int) (p : Pt) (k : Nat) : List Ct := if p.node = n then ((p.vs.take k).filter (fun v => decide (v.s = slot))).map (fun v => (p.node, v)) else []
def inL (n : Int) (slot : Int) (l : List Pt) (i : Nat) : List Ct := (l.take i).flatMap (fun p => inP n slot p p.vs.length)
def inN (slot : Int) (l : List Pt) (n : Nat) : List Ct := (List.range n).flatMap (fun m : Nat => inL ((m : Int) + 1) slot l l.length)
theorem inP_full (n slot : Int) (p : Pt) : inP n slot p p.vs.length = if p.node = n then atT slot p else [] := by
  unfold inP atT; rw [List.take_length]
theorem inL_snoc (n slot : Int) (l : List Pt) (i : Nat) (hi : i < l.length) : inL n slot l (i + 1) = inL n slot l i ++ inP n slot l[i] l[i].vs.length := by
  unfold inL; rw [List.take_succ_eq_append_getElem hi, List.flatMap_append]; simp
theorem inN_snoc (slot : Int) (l : List Pt) (n : Nat) : inN slot l (n + 1) = inN slot l n ++ inL ((n : Int) + 1) slot l l.length := by
  unfold inN; rw [List.range_succ, List.flatMap_append]; simp
theorem inP_skip {n slot : Int} {p : Pt} {k : Nat} (hk : k < p.vs.length) (h : ¬ p.vs[k].s = slot) : inP n slot p (k + 1) = inP n slot p k := by
  unfold inP
  rw [List.take_succ_eq_append_getElem hk, List.filter_append]
  simp [h]
theorem inP_put {n slot : Int} {p : Pt} {k : Nat} (hk : k < p.vs.length) (hn : p.node = n) (h : p.vs[k].s = slot) : inP n slot p (k + 1) = inP n slot p k ++ [(n, p.vs[k])] := by
  unfold inP
  rw [List.take_succ_eq_append_getElem hk, List.filter_append]
  simp [h, hn]
theorem inP_none {n slot : Int} {p : Pt} (k : Nat) (hn : ¬ p.node = n) : inP n slot p k = [] := by simp [inP, hn]
theorem inP_len (n slot : Int) (p : Pt) (k : Nat) : (inP n slot p k).length ≤ k := by
  unfold inP
  split
  · rw [List.length_map]
    have h1 := List.length_filter_le (fun v : Vt => decide (v.s = slot)) (p.vs.take k)
    rw [List.length_take] at h1
    omega
  · simp
theorem flat_filter (n slot : Int) (l : List Pt) : l.flatMap (fun p => inP n slot p p.vs.length) = (l.filter (fun p => decide (p.node = n))).flatMap (atT slot) := by
  induction l with
  | nil => rfl
  | cons p l ih =>
    rw [List.flatMap_cons, ih, inP_full, List.filter_cons]
    by_cases h : p.node = n
    · simp [h]
    · simp [h]
theorem map_flat {α β γ : Type} (f : α → List β) (g : β → γ) (l : List α) : (l.flatMap f).map g = l.flatMap (fun x => (f x).map g) := by
  induction l with
  | nil => rfl
  | cons x l ih => rw [List.flatMap_cons, List.map_append, ih, List.flatMap_cons]
theorem flat_map {α β γ : Type} (f : α → β) (g : β → List γ) (l : List α) : (l.map f).flatMap g = l.flatMap (fun x => g (f x)) := by
  induction l with
  | nil => rfl
  | cons x l ih => rw [List.map_cons, List.flatMap_cons, ih, List.flatMap_cons]
theorem inL_data (n slot : Int) (l : List Pt) : (inL n slot l l.length).map cvv = ((l.map pv).filter (fun p => decide (p.node = n))).flatMap (chp.at_ slot) := by
  unfold inL
  rw [List.take_length, flat_filter, map_flat, List.filter_map, flat_map]
  have e : ((fun p : chp.Pr => decide (p.node = n)) ∘ pv) = (fun p : Pt => decide (p.node = n)) := rfl
  rw [e]
  exact chp.fm_congr (fun p _ => at_pv slot p)
theorem inN_data (slot : Int) (l : List Pt) : (inN slot l 5).map cvv = chp.forS (l.map pv) slot := by
  unfold inN chp.forS
  rw [map_flat, show List.range 5 = [0, 1, 2, 3, 4] from rfl]
  simp only [List.flatMap_cons, List.flatMap_nil, inL_data]
  rfl
theorem inL_mem {n slot : Int} {l : List Pt} {i : Nat} {x : Ct} (h : x ∈ inL n slot l i) : ∃ p ∈ l, x.2 ∈ p.vs := by
  obtain ⟨p, hp, hx⟩ := List.mem_flatMap.1 h
  refine ⟨p, List.mem_of_mem_take hp, ?_⟩
  unfold inP at hx
  split at hx
  · obtain ⟨v, hv, rfl⟩ := List.mem_map.1 hx
    exact List.mem_of_mem_take (List.mem_filter.1 hv).1
  · simp at hx
theorem inN_mem {slot : Int} {l : List Pt} {n : Nat} {x : Ct} (h : x ∈ inN slot l n) : ∃ p ∈ l, x.2 ∈ p.vs := by
  obtain ⟨m, hm, hx⟩ := List.mem_flatMap.1 h
  exact inL_mem hx
theorem inL_len {n slot : Int} {l : List Pt} {i : Nat} (h16 : ∀ p ∈ l, p.vs.length ≤ 16) : (inL n slot l i).length ≤ 16 * i := by
  induction i with
  | zero => simp [inL]
  | succ i ih =>
    by_cases hi : i < l.length
    · rw [inL_snoc n slot l i hi, List.length_append]
      have h1 := inP_len n slot l[i] l[i].vs.length
      have h2 := h16 _ (List.getElem_mem hi)
      omega
    · have e : inL n slot l (i + 1) = inL n slot l i := by unfold inL; rw [List.take_of_length_le (by omega), List.take_of_length_le (by omega)]
      rw [e]; omega
theorem inN_len {slot : Int} {l : List Pt} {n : Nat} (h5 : l.length ≤ 5) (h16 : ∀ p ∈ l, p.vs.length ≤ 16) : (inN slot l n).length ≤ 80 * n := by
  induction n with
  | zero => simp [inN]
  | succ n ih =>
    rw [inN_snoc, List.length_append]
    have := inL_len (n := (n : Int) + 1) (slot := slot) (l := l) (i := l.length) h16
    omega
theorem lie_new5 (w : World) (T : TypeId) (x y z u t : Value) : Lie (w.alloc (.cells #[x, y, z, u, t] T)) (some ⟨w.heap.size, 0, none⟩) [x, y, z, u, t] := by
  refine .inr ⟨_, 0, rfl, by rw [size_new]; omega, fun i hi => ?_⟩
  have hb := (kit.blk (hp_alloc_new w (.cells #[x, y, z, u, t] T))).1
  rw [Nat.zero_add, hb]
  match i, hi with
  | 0, _ => rfl
  | 1, _ => rfl
  | 2, _ => rfl
  | 3, _ => rfl
  | 4, _ => rfl
/-- The list in the making. -/
def CollK (w wr : World) (T : TypeId) (o : Value) (cs : List Ct) : Prop := (∃ a c, o = .slice a cs.length c ∧ wr.ownsRow w.heap.size T 5 (.slice a cs.length c) cs.length (cs.flatMap ccells)) ∧ Below w.heap.size w wr
theorem CollK.step {w wr w' : World} {T : TypeId} {a : Option Addr} {c : Nat} {cs : List Ct} {ob : Obj} {v' : Value} {x : Ct} (hB : Below w.heap.size w wr) (hr : wr.ownsRow w.heap.size T 5 (.slice a cs.length c) cs.length (cs.flatMap ccells))
    (hg : (wr.alloc ob).grownBy w' (Value.slice a cs.length c).ownBlock) (hown : w'.ownsRow w.heap.size T 5 v' (cs.length + 1) (cs.flatMap ccells ++ ccells x)) : CollK w w' T v' (cs ++ [x]) := by
  obtain ⟨a', c', rfl⟩ := own_shape hown
  refine ⟨⟨a', c', by simp, ?_⟩, (below_step hB (below_new1 wr ob)).grown hg (by rw [size_new]; have := hB.size; omega) (fun j hj => (hr.lt j hj).1)⟩
  simpa using hown

end Go.Proofs.YtcaakiaenfkeaaaGreat.chf
/-
  The document's Open.
-/
namespace Go.Proofs.YtcaakiaenfkeaaaGreat.cho
open Go.ChangeShapes Go.WideShapes Go.ChangeAt Go.RowKit
open Go.Proofs.YtcaakiaenfkeaaaGreat.kit Go.Proofs.YtcaakiaenfkeaaaGreat.mapkit Go.Proofs.YtcaakiaenfkeaaaGreat.byt Go.Proofs.YtcaakiaenfkeaaaGreat.own Go.Proofs.YtcaakiaenfkeaaaGreat.accd Go.Proofs.YtcaakiaenfkeaaaGreat.chd Go.Proofs.YtcaakiaenfkeaaaGreat.chb Go.Proofs.YtcaakiaenfkeaaaGreat.chr Go.Proofs.YtcaakiaenfkeaaaGreat.chrr Go.Proofs.YtcaakiaenfkeaaaGreat.che Go.Proofs.YtcaakiaenfkeaaaGreat.chf Go.Proofs.YtcaakiaenfkeaaaGreat.chq
set_option linter.unusedVariables false
set_option linter.unusedSimpArgs false
set_option maxHeartbeats 2000000
set_option maxRecDepth 100000

theorem infoEntry : (Tryz.prog.info? 47).map (fun i => (i.zero, i.size, i.bytes)) = some (some (.agg #[.int .i64 0, .slice none 0 0]), 2, 32) := by kernel_rfl
/-- What a call that lists entries answers. -/
structure OutE (w w' : World) (a : Option Addr) (c : Nat) (es : List Et) (L : List (Int × List Nat)) : Prop where
  own : OwnE w' w.heap.size a c es
  data : es.map le = L
  len : ∀ e ∈ es, e.l.length ≤ 140737488355328
theorem outE_nil (w w' : World) : OutE w w' none 0 [] [] := ⟨ownE_nil _ _, rfl, by simp⟩
theorem OutE.below {w w' w2 : World} {a : Option Addr} {c : Nat} {es : List Et} {L : List (Int × List Nat)} (h : OutE w w' a c es L) (hb : Below w'.heap.size w' w2) : OutE w w2 a c es L := ⟨h.own.below hb, h.data, h.len⟩
theorem OutE.size {w w' : World} {a : Option Addr} {c : Nat} {es : List Et} {L : List (Int × List Nat)} (h : OutE w w' a c es L) : es.length = L.length := by rw [← h.data, List.length_map]
/-- One more entry. -/
theorem OutE.step {w wr w' : World} {a a2 : Option Addr} {c c2 : Nat} {es : List Et} {L : List (Int × List Nat)} {ob : Obj} {v' : Value} {s : Int} {d : List Nat} (h : OutE w wr a c es L)
    (hbd : wr.ownsRow w.heap.size 5 1 (.slice a2 d.length c2) d.length (bcells d)) (hd : d.length ≤ 140737488355328)
    (hg : (wr.alloc ob).grownBy w' (Value.slice a es.length c).ownBlock) (hown : w'.ownsRow w.heap.size 47 2 v' (es.length + 1) (es.flatMap Et.cells ++ [.int .i64 s, .slice a2 d.length c2])) :
    ∃ a3 c3, v' = .slice a3 (es ++ [(⟨s, d, a2, c2⟩ : Et)]).length c3 ∧ OutE w w' a3 c3 (es ++ [(⟨s, d, a2, c2⟩ : Et)]) (L ++ [(s, d)]) := by
  obtain ⟨a3, c3, rfl⟩ := own_shape hown
  have hk : ∀ {n cc : Nat} {aa : Option Addr} {xs : List Value}, wr.ownsRow w.heap.size 5 1 (.slice aa n cc) n xs → w'.ownsRow w.heap.size 5 1 (.slice aa n cc) n xs := by
    intro n cc aa xs ho
    refine own_kept ho (fun g hgg => ?_)
    have hgz := (own_from ho g hgg).2
    refine (hg.block g (by rw [size_new]; omega) (fun e => ?_)).trans (hp_alloc_old hgz)
    have e' := own_block h.own.row g e.symm
    obtain ⟨cur, hcur⟩ := own_heap h.own.row g e'
    obtain ⟨cur2, hcur2⟩ := own_heap ho g hgg
    rw [hcur] at hcur2
    simp at hcur2
  refine ⟨a3, c3, by simp, ⟨?_, fun e he => ?_⟩, by rw [List.map_append, h.data]; rfl, fun e he => ?_⟩
  · simpa [Et.cells] using hown
  · rcases List.mem_append.1 he with he | he
    · exact hk (h.own.body e he)
    · rw [List.mem_singleton.1 he]; exact hk hbd
  · rcases List.mem_append.1 he with he | he
    · exact h.len e he
    · rw [List.mem_singleton.1 he]; exact hd
theorem lie_new2 (w : World) (T : TypeId) (x y : Value) : Lie (w.alloc (.cells #[x, y] T)) (some ⟨w.heap.size, 0, none⟩) [x, y] := by
  refine .inr ⟨_, 0, rfl, by rw [size_new]; omega, fun i hi => ?_⟩
  have hb := (kit.blk (hp_alloc_new w (.cells #[x, y] T))).1
  rw [Nat.zero_add, hb]
  match i, hi with
  | 0, _ => rfl
  | 1, _ => rfl
theorem nod_len : ∀ (n : Nat) (L : List Int), L.Nodup → (∀ x ∈ L, 1 ≤ x ∧ x ≤ (n : Int)) → L.length ≤ n
  | 0, L, _, h => by
    cases L with
    | nil => simp
    | cons x L => have := h x List.mem_cons_self; omega
  | n + 1, L, hn, h => by
    by_cases hm : ((n : Int) + 1) ∈ L
    · have h1 := nod_len n (L.erase ((n : Int) + 1)) (hn.erase _) (fun x hx => by
        have h2 := (hn.mem_erase_iff).1 hx
        have h3 := h x h2.2
        have h4 := h2.1
        omega)
      rw [List.length_erase_of_mem hm] at h1
      omega
    · have h1 := nod_len n L hn (fun x hx => by
        have h3 := h x hx
        have h4 : x ≠ (n : Int) + 1 := fun e => hm (e ▸ hx)
        omega)
      omega
theorem right_size {nodes : Int} {l : List Pt} (h : chp.Right nodes (l.map pv)) : l.length ≤ 5 ∧ ∀ p ∈ l, p.vs.length ≤ 16 := by
  refine ⟨?_, fun p hp => ?_⟩
  · have hn : (l.map pv).Pairwise (fun a b => a.node ≠ b.node) := h.2.2
    have h1 : ((l.map pv).map chp.Pr.node).Nodup := List.pairwise_map.2 hn
    have h3 := nod_len 5 _ h1 (fun x hx => by
      obtain ⟨q, hq, rfl⟩ := List.mem_map.1 hx
      have := (prOk_iff.1 (h.2.1 q hq)).1
      have h5 := h.1
      omega)
    simpa using h3
  · have := (prOk_iff.1 (h.2.1 (pv p) (List.mem_map_of_mem hp))).2.1
    simpa [pv] using this
/-- The state of the document's search for the greatest ballot: the entry and the ballot in their blocks. -/
structure Bst (base eb bb : Nat) (s : Int) (st : Int × Int × List Nat) (W : World) : Prop where
  ex : ∃ a c, W.heap[eb]? = some (.cells #[.int .i64 s, .slice a st.2.2.length c] 47 (0, 0)) ∧ W.ownsRow base 5 1 (.slice a st.2.2.length c) st.2.2.length (bcells st.2.2)
  best : W.heap[bb]? = some (.cells #[.int .i64 st.1, .int .i64 st.2.1] 28 (0, 0))
  len : st.2.2.length ≤ 140737488355328
theorem Bst.below {base eb bb : Nat} {s : Int} {st : Int × Int × List Nat} {W W' : World} (h : Bst base eb bb s st W) (hb : Below W.heap.size W W') : Bst base eb bb s st W' := by
  obtain ⟨⟨a, c, h1, h2⟩, h3, h4⟩ := h
  exact ⟨⟨a, c, hp_step h1 hb, own_below h2 hb⟩, hp_step h3 hb, h4⟩

theorem right_of {nodes : Int} {l : List chp.Pr} (h : rightB nodes l = true) : chp.Right nodes l := of_decide_eq_true h
theorem right_no {nodes : Int} {l : List chp.Pr} (h : rightB nodes l = false) : ¬ chp.Right nodes l := of_decide_eq_false h
theorem top_range {l : List chp.Pr} {nodes : Int} (h : chp.Right nodes l) : 0 ≤ topL 0 l ∧ topL 0 l ≤ 1099511627776 := by
  obtain ⟨h1, h2, h3⟩ := topL_spec l 0
  refine ⟨h1, ?_⟩
  rcases h3 with h3 | ⟨p, hp, v, hv, h3⟩
  · omega
  · have := ((chp.lastOk_lt (prOk_iff.1 (h.2.1 p hp)).2.2).1 v hv).2.1
    omega
/-- What an Open answers. -/
def OpenR (w : World) (nodes from_ : Int) (L : List chp.Pr) (e : Ending) (w' : World) : Prop :=
  ∃ (a' : Option Addr) (c' : Nat) (es : List Et), e = .returned (.tuple #[.slice a' es.length c', .int .i64 (openE nodes from_ L)]) ∧ OutE w w' a' c' es (openL nodes from_ L) ∧ Below w.heap.size w w'
theorem openR_err {w w' : World} {nodes from_ : Int} {L : List chp.Pr} {e : Ending} {x : Int} (h : e = .returned (.tuple #[.slice none 0 0, .int .i64 x]) ∧ Below w.heap.size w w') (hx : openE nodes from_ L = x) (h0 : x ≠ 0) : OpenR w nodes from_ L e w' := by
  refine ⟨none, 0, [], by rw [hx]; exact h.1, ?_, h.2⟩
  unfold openL
  rw [hx, if_neg h0]
  exact outE_nil _ _
end Go.Proofs.YtcaakiaenfkeaaaGreat.cho
/-
  The document's Chosen.
-/
namespace Go.Proofs.YtcaakiaenfkeaaaGreat.chc
open Go.ChangeShapes Go.WideShapes Go.ChangeAt Go.RowKit
open Go.Proofs.YtcaakiaenfkeaaaGreat.kit Go.Proofs.YtcaakiaenfkeaaaGreat.mapkit Go.Proofs.YtcaakiaenfkeaaaGreat.byt Go.Proofs.YtcaakiaenfkeaaaGreat.own Go.Proofs.YtcaakiaenfkeaaaGreat.accd Go.Proofs.YtcaakiaenfkeaaaGreat.chd Go.Proofs.YtcaakiaenfkeaaaGreat.chb Go.Proofs.YtcaakiaenfkeaaaGreat.chr Go.Proofs.YtcaakiaenfkeaaaGreat.chrr Go.Proofs.YtcaakiaenfkeaaaGreat.che Go.Proofs.YtcaakiaenfkeaaaGreat.chf Go.Proofs.YtcaakiaenfkeaaaGreat.chq Go.Proofs.YtcaakiaenfkeaaaGreat.cho
set_option linter.unusedVariables false
set_option linter.unusedSimpArgs false
set_option maxHeartbeats 2000000
set_option maxRecDepth 100000

theorem neBallotZ (w : World) (a b : Int) : (binOp .neq 28 (.agg #[.int .i64 a, .int .i64 b]) (.agg #[.int .i64 0, .int .i64 0])).run Tryz.prog w = .ok (.bool (!(a == 0 && b == 0))) w := by
  cases h : (a == 0) <;> cases h2 : (b == 0) <;> go_simp
/-- What is chosen. -/
def chosenA (nodes : Int) (L : List chp.Pr) : List (Int × List Nat) := if chp.Right nodes L then chosenL nodes L (slotsOf L) else []
theorem lst_zero (ss : List Int) : lst ss 0 = 0 := rfl
theorem lst_succ (ss : List Int) (k : Nat) (h : k < ss.length) : lst ss (k + 1) = ss[k] := by
  unfold lst
  rw [if_neg (by omega), show k + 1 - 1 = k by omega, List.getElem?_eq_getElem h]; rfl
theorem slots_range {nodes : Int} {L : List chp.Pr} {ss : List Int} (hr : chp.Right nodes L) (hs : IsSlots ss L) : ∀ x ∈ ss, 1 ≤ x ∧ x ≤ 1099511627776 := by
  intro x hx
  obtain ⟨p, hp, v, hv, rfl⟩ := (hs.2 x).1 hx
  have := (chp.lastOk_lt (prOk_iff.1 (hr.2.1 p hp)).2.2).1 v hv
  omega
theorem lst_range {ss : List Int} (h : ∀ x ∈ ss, 1 ≤ x ∧ x ≤ 1099511627776) (k : Nat) (hk : k ≤ ss.length) : 0 ≤ lst ss k ∧ lst ss k ≤ 1099511627776 := by
  cases k with
  | zero => rw [lst_zero]; omega
  | succ k =>
    rw [lst_succ ss k (by omega)]
    have := h _ (List.getElem_mem (show k < ss.length by omega))
    omega
theorem lst_lt {ss : List Int} {l : List chp.Pr} (hs : IsSlots ss l) (h : ∀ x ∈ ss, 1 ≤ x ∧ x ≤ 1099511627776) (k : Nat) (hk : k < ss.length) : lst ss k < ss[k] := by
  cases k with
  | zero => rw [lst_zero]; have := h _ (List.getElem_mem hk); omega
  | succ k =>
    rw [lst_succ ss k (by omega)]
    exact List.pairwise_iff_getElem.1 hs.1 k (k + 1) (by omega) hk (by omega)
theorem won_pos {nodes : Int} {L : List chp.Pr} (hr : chp.Right nodes L) (s : Int) : ∀ c ∈ chp.forS L s, chp.lessB 0 0 c.2.r c.2.n = true := by
  intro c hc
  obtain ⟨n, -, hx⟩ := List.mem_flatMap.1 hc
  obtain ⟨p, hp, hx⟩ := List.mem_flatMap.1 hx
  obtain ⟨v, hv, rfl⟩ := List.mem_map.1 hx
  have := (chp.lastOk_lt (prOk_iff.1 (hr.2.1 p (List.mem_filter.1 hp).1)).2.2).1 v (List.mem_filter.1 hv).1
  simp [chp.lessB]
  omega
theorem chS_none {nodes : Int} {L : List chp.Pr} {s : Int} {st : Int × Int × List Nat} (hr : chp.Right nodes L) (h : (wonS nodes L s).foldl chp.stp (0, 0, []) = st) (hz : st.1 = 0 ∧ st.2.1 = 0) : chS nodes L s = none := by
  have hp : ∀ c ∈ wonS nodes L s, chp.lessB 0 0 c.2.r c.2.n = true := fun c hc => won_pos hr s c (List.mem_filter.1 hc).1
  have h1 := chp.best_doc (wonS nodes L s) none hp
  have h2 : (wonS nodes L s).foldl chp.stp (0, 0, []) = chp.outB ((wonS nodes L s).foldl chp.pick none) := h1
  rw [h] at h2
  have h3 := (chp.out_zero hp).1 (by rw [← h2]; exact hz)
  unfold chS
  rw [h3]; rfl
theorem chS_some {nodes : Int} {L : List chp.Pr} {s : Int} {st : Int × Int × List Nat} (hr : chp.Right nodes L) (h : (wonS nodes L s).foldl chp.stp (0, 0, []) = st) (hz : ¬ (st.1 = 0 ∧ st.2.1 = 0)) : chS nodes L s = some (s, st.2.2) := by
  have hne : wonS nodes L s ≠ [] := by
    intro e
    rw [e] at h
    apply hz
    rw [← h]
    exact ⟨rfl, rfl⟩
  unfold chS
  rw [h]
  cases h2 : wonS nodes L s with
  | nil => exact absurd h2 hne
  | cons c t => rfl

theorem hDj {cs : List Ct} {D : List (Int × chp.V)} (h : cs.map cvv = D) (j : Nat) (hj : j < cs.length) : D.take (j + 1) = D.take j ++ [cvv cs[j]] := by
  rw [← h, List.take_succ_eq_append_getElem (by rw [List.length_map]; exact hj), List.getElem_map]
/-- What a Chosen answers. -/
def ChosenR (w : World) (nodes : Int) (L : List chp.Pr) (e : Ending) (w' : World) : Prop :=
  ∃ (a' : Option Addr) (c' : Nat) (es : List Et), e = .returned (.slice a' es.length c') ∧ OutE w w' a' c' es (chosenA nodes L) ∧ Below w.heap.size w w'
end Go.Proofs.YtcaakiaenfkeaaaGreat.chc
/-
  Leads, candidate, ask, others, Ready.
-/
namespace Go.Proofs.YtcaakiaenfkeaaaGreat.peq
open Go.ChangeShapes Go.WideShapes Go.ChangeAt Go.RowKit
open Go.Proofs.YtcaakiaenfkeaaaGreat.kit Go.Proofs.YtcaakiaenfkeaaaGreat.mapkit Go.Proofs.YtcaakiaenfkeaaaGreat.byt Go.Proofs.YtcaakiaenfkeaaaGreat.own Go.Proofs.YtcaakiaenfkeaaaGreat.accd Go.Proofs.YtcaakiaenfkeaaaGreat.accb Go.Proofs.YtcaakiaenfkeaaaGreat.acce Go.Proofs.YtcaakiaenfkeaaaGreat.chd Go.Proofs.YtcaakiaenfkeaaaGreat.che Go.Proofs.YtcaakiaenfkeaaaGreat.ownr Go.Proofs.YtcaakiaenfkeaaaGreat.pep Go.Proofs.YtcaakiaenfkeaaaGreat.peb Go.Proofs.YtcaakiaenfkeaaaGreat.pem Go.Proofs.YtcaakiaenfkeaaaGreat.pen Go.Proofs.YtcaakiaenfkeaaaGreat.pes
set_option linter.unusedVariables false
set_option linter.unusedSimpArgs false
set_option maxHeartbeats 4000000
set_option maxRecDepth 100000

theorem leads_nil (w : World) : Calls Tryz.prog 6 #[.pointer none] w fun e w' => e = .returned (.bool false) ∧ w' = w := by
  go_enter Tryz.func6, Tryz.ntmps6
  go_wp2_with fail
  go_ret
  exact ⟨rfl, rfl⟩
theorem leads_ok (w : World) (O : Owners) (i pb : Nat) (M : PM) (h : PeerAt w O i pb M) :
    Calls Tryz.prog 6 #[.pointer (some ⟨pb, 0, none⟩)] w fun e w' => e = .returned (.bool M.leads) ∧ w' = w := by
  have x12 : w.cell? ⟨pb, 12, none⟩ = some (.bool M.leads) := (kit.blk h.blk).1 12
  clear h
  go_enter Tryz.func6, Tryz.ntmps6
  go_wp2_with fail
  go_ret
  exact ⟨rfl, rfl⟩
def PM.cand (M : PM) : Bool := !(M.o1 == 0 && M.o2 == 0) && !M.leads
theorem cand_dat (M : PM) : PM.cand M = M.dat.candidate := rfl
theorem candidate_ok (w : World) (O : Owners) (i pb : Nat) (M : PM) (h : PeerAt w O i pb M) :
    Calls Tryz.prog 45 #[.pointer (some ⟨pb, 0, none⟩)] w fun e w' => e = .returned (.bool (PM.cand M)) ∧ w' = w := by
  have x10 : w.cell? ⟨pb, 10, none⟩ = some (.int .i64 M.o1) := (kit.blk h.blk).1 10
  have x11 : w.cell? ⟨pb, 11, none⟩ = some (.int .i64 M.o2) := (kit.blk h.blk).1 11
  have x12 : w.cell? ⟨pb, 12, none⟩ = some (.bool M.leads) := (kit.blk h.blk).1 12
  have hn := fun w => chc.neBallotZ w M.o1 M.o2
  clear h
  unfold PM.cand
  cases e : (M.o1 == 0 && M.o2 == 0) with
  | true =>
    rw [e] at hn
    clear e
    go_enter Tryz.func45, Tryz.ntmps45
    go_wp2_with fail
    go_ret
    exact ⟨rfl, rfl⟩
  | false =>
    rw [e] at hn
    clear e
    go_enter Tryz.func45, Tryz.ntmps45
    go_wp2_with fail
    go_ret
    exact ⟨by simp, rfl⟩
def askL (M : PM) (dst : Int) : LtM := ⟨7, M.node, dst, 0, 0, M.index + M.en.l.length + 1, 0, sl0, sl0, 0, 0, 0, sl0⟩
theorem rol_nil (w : World) (O : Owners) (k fr dst b1 b2 sl cm : Int) : RoL w O ⟨k, fr, dst, b1, b2, sl, cm, sl0, sl0, 0, 0, 0, sl0⟩ := ⟨rorow_nil _ _ _, by simp [sl0], rorow_nil _ _ _, by simp [sl0], rob_nil _⟩
theorem ask_ok (w : World) (O : Owners) (i pb : Nat) (M : PM) (dst : Int) (h : PeerAt w O i pb M) (h1 : 0 ≤ M.index ∧ M.index ≤ 4398046511104) (h2 : M.en.l.length ≤ 1000000000) (h2l : M.lt.l.length ≤ 1000000000) :
    Calls Tryz.prog 48 #[.pointer (some ⟨pb, 0, none⟩), .int .i64 dst] w fun e w' => e = .returned (.tuple #[]) ∧ ∃ (a : Option Addr) (c : Nat), Behind w O i pb (Mine i) w' { M with lt := ⟨a, c, M.lt.l ++ [askL M dst]⟩ } := by
  have HP := Lib.hid h
  have HC := Lib.hid (commit_ok w O i pb M h h1 (by omega))
  have hw : IntKind.i64.wrap (M.index + M.en.l.length + 1) = M.index + M.en.l.length + 1 := IntWalk.i64_in _ (by omega)
  have HTE := Lib.hid (fun (w4 : World) (hb4 : Below w.heap.size w w4) => tell_ok w4 O i pb M dst ⟨7, 0, 0, 0, 0, M.index + M.en.l.length + 1, 0, sl0, sl0, 0, 0, 0, sl0⟩ (PeerAt.below HP.out hb4) (rol_nil _ _ _ _ _ _ _ _ _) h2l)
  simp only [lval, sl0, List.length_nil] at HTE
  clear h
  go_enter Tryz.func48, Tryz.ntmps48
  go_wp2_with (first | (go_at_call 12; refine HC.out.mono ?_; rintro e w2 ⟨rfl, hb2⟩; have HB2 := Lib.hid hb2; clear hb2) | (go_at_call 44; refine (HTE.out w2 HB2.out).mono ?_; rintro e w5 ⟨rfl, c5, a5, hL5⟩; have HL5 := Lib.hid hL5; clear hL5))
  refine bodyPost_end (v := .tuple #[]) (by simp [results, Tryz.results48, go_sem]) rfl ⟨rfl, a5, c5, ?_⟩
  obtain ⟨O5, P5, F5⟩ := HL5.out
  exact ⟨O5, P5, (Fr.of_below HP.out.clean HB2.out).trans (F5.mono sf_mine)⟩
/-- Ready: what was to be done is handed out. -/
def readyV (M : PM) : Value := .agg #[.slice M.nt.a M.nt.l.length M.nt.c, .slice M.lt.a M.lt.l.length M.lt.c, .slice M.ch.a M.ch.l.length M.ch.c, .int .i64 M.ri, .slice M.rm.a M.rm.l.length M.rm.c]
def PM.clear (M : PM) : PM := { M with nt := sl0, lt := sl0, ch := sl0, ri := 0, rm := sl0 }
theorem clear_dat (M : PM) : (PM.clear M).dat = M.dat.clear := rfl
theorem clear_fin {w : World} {O : Owners} {i pb : Nat} {M : PM} (h : PeerAt w O i pb M) : Behind w O i pb (Mine i) (((((w.setCell ⟨pb, 53, none⟩ (.slice none 0 0)).setCell ⟨pb, 54, none⟩ (.slice none 0 0)).setCell ⟨pb, 55, none⟩ (.slice none 0 0)).setCell ⟨pb, 56, none⟩ (.int .i64 0)).setCell ⟨pb, 57, none⟩ (.slice none 0 0)) (PM.clear M) := by
  have b0 := h.blk
  have b1 := hp_set b0 53 (.slice none 0 0)
  have b2 := hp_set b1 54 (.slice none 0 0)
  have b3 := hp_set b2 55 (.slice none 0 0)
  have b4 := hp_set b3 56 (.int .i64 0)
  have b5 := hp_set b4 57 (.slice none 0 0)
  have F : Fr (Sf i 1) w O (((((w.setCell ⟨pb, 53, none⟩ (.slice none 0 0)).setCell ⟨pb, 54, none⟩ (.slice none 0 0)).setCell ⟨pb, 55, none⟩ (.slice none 0 0)).setCell ⟨pb, 56, none⟩ (.int .i64 0)).setCell ⟨pb, 57, none⟩ (.slice none 0 0)) O :=
    (((((Fr.refl (Sf i 1) h.clean).set (p := ⟨pb, 53, none⟩) (.inr (.inl h.tag)) b0 still_peer _).set (p := ⟨pb, 54, none⟩) (.inr (.inl h.tag)) b1 still_peer _).set (p := ⟨pb, 55, none⟩) (.inr (.inl h.tag)) b2 still_peer _).set (p := ⟨pb, 56, none⟩) (.inr (.inl h.tag)) b3 still_peer _).set (p := ⟨pb, 57, none⟩) (.inr (.inl h.tag)) b4 still_peer _
  have hP := h.parts.fr (g := fun j => j = 1) (fun _ hf => hf.elim) (fun j hj => by rintro (e | e) <;> exact hj (congrArg Prod.snd e)) (sf_ro h.me) F
  refine ⟨O, ⟨F.clean, h.me, b5, h.tag, ⟨fun _ => hP.acc (by decide), fun _ => hP.ent (by decide), fun _ => hP.opn (by decide), fun _ => hP.tdo (by decide), fun _ => ⟨row_nil _ _ _ _ _, by simp [PM.clear, sl0]⟩, fun _ => ⟨row_nil _ _ _ _ _, by simp [PM.clear, sl0]⟩, fun _ => ⟨row_nil _ _ _ _ _, by simp [PM.clear, sl0]⟩, fun j hj _ => hP.prm j hj (by omega), fun j hj _ => hP.box j hj (by omega), hP.img, rob_nil _⟩⟩, F.mono sf_mine⟩
theorem ready_nil (w : World) : Calls Tryz.prog 9 #[.pointer none] w fun e w' => e = .returned (.agg #[.slice none 0 0, .slice none 0 0, .slice none 0 0, .int .i64 0, .slice none 0 0]) ∧ Below w.heap.size w w' := by
  go_enter Tryz.func9, Tryz.ntmps9
  go_wp2_with fail
  have hn := (kit.blk (hp_alloc_new w (.cells #[.slice none 0 0, .slice none 0 0, .slice none 0 0, .int .i64 0, .slice none 0 0] 40))).1
  have n0 := hn 0
  have n1 := hn 1
  have n2 := hn 2
  have n3 := hn 3
  have n4 := hn 4
  exact bodyPost_ret (v := .agg #[.slice none 0 0, .slice none 0 0, .slice none 0 0, .int .i64 0, .slice none 0 0]) (by simp [results, Tryz.results9, go_sem, n0, n1, n2, n3, n4]) rfl ⟨rfl, below_new1 _ _⟩
theorem ready_ok (w : World) (O : Owners) (i pb : Nat) (M : PM) (h : PeerAt w O i pb M) :
    Calls Tryz.prog 9 #[.pointer (some ⟨pb, 0, none⟩)] w fun e w' => e = .returned (readyV M) ∧ Behind w O i pb (Mine i) w' (PM.clear M) := by
  have HP := Lib.hid h
  have x53 : w.cell? ⟨pb, 53, none⟩ = some (.slice M.nt.a M.nt.l.length M.nt.c) := (kit.blk h.blk).1 53
  have x54 : w.cell? ⟨pb, 54, none⟩ = some (.slice M.lt.a M.lt.l.length M.lt.c) := (kit.blk h.blk).1 54
  have x55 : w.cell? ⟨pb, 55, none⟩ = some (.slice M.ch.a M.ch.l.length M.ch.c) := (kit.blk h.blk).1 55
  have x56 : w.cell? ⟨pb, 56, none⟩ = some (.int .i64 M.ri) := (kit.blk h.blk).1 56
  have x57 : w.cell? ⟨pb, 57, none⟩ = some (.slice M.rm.a M.rm.l.length M.rm.c) := (kit.blk h.blk).1 57
  have f53 : w.frozen? ⟨pb, 53, none⟩ = false := (kit.blk h.blk).2.1 53
  have f54 : w.frozen? ⟨pb, 54, none⟩ = false := (kit.blk h.blk).2.1 54
  have f55 : w.frozen? ⟨pb, 55, none⟩ = false := (kit.blk h.blk).2.1 55
  have f56 : w.frozen? ⟨pb, 56, none⟩ = false := (kit.blk h.blk).2.1 56
  have f57 : w.frozen? ⟨pb, 57, none⟩ = false := (kit.blk h.blk).2.1 57
  have hpz := (kit.blk h.blk).2.2
  clear h
  go_enter Tryz.func9, Tryz.ntmps9
  go_wp2_with fail
  obtain ⟨w5, hw5⟩ : ∃ w5 : World, w5 = ((((w.setCell ⟨pb, 53, none⟩ (.slice none 0 0)).setCell ⟨pb, 54, none⟩ (.slice none 0 0)).setCell ⟨pb, 55, none⟩ (.slice none 0 0)).setCell ⟨pb, 56, none⟩ (.int .i64 0)).setCell ⟨pb, 57, none⟩ (.slice none 0 0) := ⟨_, rfl⟩
  obtain ⟨O5, P5, F5⟩ := clear_fin HP.out
  rw [← hw5] at P5 F5 ⊢
  have hs5 : w5.heap.size = w.heap.size := by rw [hw5, size_set, size_set, size_set, size_set, size_set]
  obtain ⟨X, hX⟩ : ∃ X : Obj, X = .cells #[.slice M.nt.a M.nt.l.length M.nt.c, .slice M.lt.a M.lt.l.length M.lt.c, .slice M.ch.a M.ch.l.length M.ch.c, .int .i64 M.ri, .slice M.rm.a M.rm.l.length M.rm.c] 40 := ⟨_, rfl⟩
  rw [← hX]
  have hn := hp_new (o := X) (hp_alloc_new w5 X)
  rw [hs5, hX] at hn
  rw [← hX] at hn
  have hq := (kit.blk (by rw [hn, hX] : ((w5.alloc X).alloc X).heap[w.heap.size]? = some (.cells #[.slice M.nt.a M.nt.l.length M.nt.c, .slice M.lt.a M.lt.l.length M.lt.c, .slice M.ch.a M.ch.l.length M.ch.c, .int .i64 M.ri, .slice M.rm.a M.rm.l.length M.rm.c] 40 (0, 0)))).1
  have n0 := hq 0
  have n1 := hq 1
  have n2 := hq 2
  have n3 := hq 3
  have n4 := hq 4
  have hbb : Below w5.heap.size w5 ((w5.alloc X).alloc X) := below_new2 _ _ _
  exact bodyPost_ret (v := readyV M) (by simp [results, Tryz.results9, go_sem, n0, n1, n2, n3, n4, readyV]) rfl ⟨rfl, O5, PeerAt.below P5 hbb, F5.trans (Fr.of_below P5.clean hbb)⟩
/-- The letters that others tells, to the nodes 1 .. k. -/
def othL (M : PM) (x : LtM) (k : Nat) : List LtM := ((upTo k).filter fun d => decide (d ≠ M.node)).map fun d => { x with fr := M.node, dst := d }
theorem upTo_succ (k : Nat) : upTo (k + 1) = upTo k ++ [(k : Int) + 1] := by simp [upTo, List.range_succ]
theorem othL_succ (M : PM) (x : LtM) (k : Nat) : othL M x (k + 1) = othL M x k ++ if (k : Int) + 1 = M.node then [] else [{ x with fr := M.node, dst := (k : Int) + 1 }] := by
  unfold othL
  rw [upTo_succ, List.filter_append, List.map_append]
  congr 1
  by_cases h : (k : Int) + 1 = M.node <;> simp [List.filter, h]
theorem othL_len (M : PM) (x : LtM) (k : Nat) : (othL M x k).length ≤ k := by
  unfold othL
  rw [List.length_map]
  refine Nat.le_trans (List.length_filter_le _ _) ?_
  simp [upTo]
theorem others_ok (w : World) (O : Owners) (i pb : Nat) (M : PM) (x : LtM) (h : PeerAt w O i pb M) (hx : RoL w O x) (hn : 0 ≤ M.nodes ∧ M.nodes ≤ 5) (hl : M.lt.l.length ≤ 900000000) :
    Calls Tryz.prog 23 #[.pointer (some ⟨pb, 0, none⟩), lval x] w fun e w' => e = .returned (.tuple #[]) ∧ ∃ (a : Option Addr) (c : Nat), Behind w O i pb (Mine i) w' { M with lt := ⟨a, c, M.lt.l ++ othL M x M.nodes.toNat⟩ } := by
  obtain ⟨n, hn1, hn5⟩ : ∃ n : Nat, M.nodes = (n : Int) ∧ n ≤ 5 := ⟨M.nodes.toNat, by omega, by omega⟩
  have HP := Lib.hid h
  obtain ⟨w1, hw1⟩ : ∃ w1, w1 = w.alloc (.cells x.cells.toArray 84) := ⟨_, rfl⟩
  have hb1 : Below w.heap.size w w1 := by rw [hw1]; exact below_new1 _ _
  have hc1 : w1.heap[w.heap.size]? = some (.cells x.cells.toArray 84 (0, 0)) := by rw [hw1]; exact hp_alloc_new _ _
  have P1 := PeerAt.below h hb1
  have F1 : Fr (fun _ => False) w O w1 O := Fr.of_below h.clean hb1
  have HX := Lib.hid (hx.fr (fun x => x) F1)
  have hB0 : Behind w1 O i pb (Sf i 7) w1 { M with lt := ⟨M.lt.a, M.lt.c, M.lt.l ++ othL M x 0⟩ } := by
    have e : M.lt.l ++ othL M x 0 = M.lt.l := by simp [othL, upTo]
    rw [e]
    exact ⟨O, P1, Fr.refl _ P1.clean⟩
  have HB0 := Lib.hid (And.intro hB0 hc1)
  have HEO : Hid (¬ Sf i 7 (O w.heap.size)) := by show ¬ Sf i 7 (O w.heap.size); rw [h.clean w.heap.size (Nat.le_refl _)]; exact sf_ro h.me
  have HBB := Lib.hid hb1
  have HN1 := Lib.hid hn1
  have hsz : w.heap.size < w1.heap.size := (kit.blk hc1).2.2
  have HSZ := Lib.hid hsz
  obtain ⟨eb, heb⟩ : ∃ eb, eb = w.heap.size := ⟨_, rfl⟩
  have HEB := Lib.hid heb
  have HW1 := Lib.hid hw1
  clear h hx hb1 hc1 P1 F1 hB0 hn1 hw1 hsz hn heb
  simp only [lval]
  go_enter Tryz.func23, Tryz.ntmps23
  go_upto_region 1 with fail
  simp only [LtM.cells, Sl.val] at HW1
  rw [← HW1.out, ← HEB.out]
  go_wp2_with fail
  go_loopw [4] (fun t wr => ∃ (k : Nat) (a : Option Addr) (c : Nat), k ≤ n ∧ t = .int .i64 ((k : Int) + 1) ∧ Hid (Behind w1 O i pb (Sf i 7) wr { M with lt := ⟨a, c, M.lt.l ++ othL M x k⟩ } ∧ wr.heap[w.heap.size]? = some (.cells x.cells.toArray 84 (0, 0)))) (fun t _ => n + 1 - (RowKit.intOf t).toNat)
  case atStart => exact ⟨0, M.lt.a, M.lt.c, Nat.zero_le _, rfl, HB0⟩
  case round =>
    obtain ⟨k, a, c, hk, rfl, HR⟩ := hrel
    obtain ⟨⟨O2, P2, F2⟩, hbox⟩ := HR.out
    have x1 : wr.cell? ⟨pb, 1, none⟩ = some (.int .i64 M.nodes) := (kit.blk P2.blk).1 1
    rw [HN1.out] at x1
    have x0 : wr.cell? ⟨pb, 0, none⟩ = some (.int .i64 M.node) := (kit.blk P2.blk).1 0
    by_cases hlt : k < n
    · have hle : (k : Int) + 1 ≤ (n : Int) := by omega
      have hw2 : IntKind.i64.wrap ((k : Int) + 1 + 1) = (k : Int) + 1 + 1 := IntWalk.i64_in _ (by omega)
      by_cases hme : (k : Int) + 1 = M.node
      · have t1 : ((k : Int) + 1 != M.node) = false := by simp [hme]
        have e : othL M x (k + 1) = othL M x k := by rw [othL_succ, if_pos hme, List.append_nil]
        have HR2 : Hid (Behind w1 O i pb (Sf i 7) wr { M with lt := ⟨a, c, M.lt.l ++ othL M x (k + 1)⟩ } ∧ wr.heap[w.heap.size]? = some (.cells x.cells.toArray 84 (0, 0))) := by rw [e]; exact HR
        clear P2 F2 hbox e hme
        go_wp2_with fail
        go_roundw
        case rel => exact ⟨k + 1, a, c, by omega, by go_num, HR2⟩
        case measure => simp [RowKit.intOf]; omega
      · have t1 : ((k : Int) + 1 != M.node) = true := by simpa using hme
        have hXr : RoL wr O2 x := HX.out.fr (sf_ro HP.out.me) F2
        have hlen : (M.lt.l ++ othL M x k).length ≤ 1000000000 := by have := othL_len M x k; rw [List.length_append]; omega
        have HTE := Lib.hid (tell_ok wr O2 i pb _ ((k : Int) + 1) x P2 hXr hlen)
        simp only [lval] at HTE
        have hq : ∀ j, wr.cell? ⟨eb, j, none⟩ = x.cells[j]? := fun j => by rw [HEB.out, (kit.blk hbox).1 j]; simp
        have q0 : wr.cell? ⟨eb, 0, none⟩ = some (.int .i64 x.kind) := hq 0
        have q1 : wr.cell? ⟨eb, 1, none⟩ = some (.int .i64 x.fr) := hq 1
        have q2 : wr.cell? ⟨eb, 2, none⟩ = some (.int .i64 x.dst) := hq 2
        have q3 : wr.cell? ⟨eb, 3, none⟩ = some (.int .i64 x.b1) := hq 3
        have q4 : wr.cell? ⟨eb, 4, none⟩ = some (.int .i64 x.b2) := hq 4
        have q5 : wr.cell? ⟨eb, 5, none⟩ = some (.int .i64 x.slot) := hq 5
        have q6 : wr.cell? ⟨eb, 6, none⟩ = some (.int .i64 x.commit) := hq 6
        have q7 : wr.cell? ⟨eb, 7, none⟩ = some (.slice x.vs.a x.vs.l.length x.vs.c) := hq 7
        have q8 : wr.cell? ⟨eb, 8, none⟩ = some (.slice x.es.a x.es.l.length x.es.c) := hq 8
        have q9 : wr.cell? ⟨eb, 9, none⟩ = some (.int .i64 x.at_) := hq 9
        have q10 : wr.cell? ⟨eb, 10, none⟩ = some (.int .i64 x.of_) := hq 10
        have q11 : wr.cell? ⟨eb, 11, none⟩ = some (.int .u32 x.sum) := hq 11
        have q12 : wr.cell? ⟨eb, 12, none⟩ = some (.slice x.d.a x.d.l.length x.d.c) := hq 12
        have hS2 : ¬ Sf i 7 (O2 w.heap.size) := by rw [F2.own w.heap.size HSZ.out]; exact HEO.out
        have HS2 := Lib.hid hS2
        have HBX := Lib.hid hbox
        have HF2 := Lib.hid F2
        have e : M.lt.l ++ othL M x k ++ [{ x with fr := M.node, dst := (k : Int) + 1 }] = M.lt.l ++ othL M x (k + 1) := by rw [othL_succ, if_neg hme, List.append_assoc]
        have HE := Lib.hid e
        clear P2 F2 hbox e hq hXr hS2 hme hlen
        go_wp2_with (go_at_call 44; refine HTE.out.mono ?_; rintro e w5 ⟨rfl, c5, a5, hL5⟩; have HL5 := Lib.hid hL5; clear hL5)
        obtain ⟨O5, P5, F5⟩ := HL5.out
        have HR5 : Hid (Behind w1 O i pb (Sf i 7) w5 { M with lt := ⟨a5, c5, M.lt.l ++ othL M x (k + 1)⟩ } ∧ w5.heap[w.heap.size]? = some (.cells x.cells.toArray 84 (0, 0))) := by
          refine ⟨⟨O5, ?_, HF2.out.trans F5⟩, F5.hp HBX.out HS2.out⟩
          rw [← HE.out]; exact P5
        clear P5 F5 HL5
        go_roundw
        case rel => exact ⟨k + 1, a5, c5, by omega, by go_num, HR5⟩
        case measure => simp [RowKit.intOf]; omega
    · obtain rfl : k = n := by omega
      have hle : ¬ (k : Int) + 1 ≤ (k : Int) := by omega
      clear P2 F2 hbox
      go_wp2_with fail
      refine bodyPost_end (v := .tuple #[]) (by simp [results, Tryz.results23, go_sem]) rfl ⟨rfl, a, c, ?_⟩
      obtain ⟨⟨O2, P2, F2⟩, -⟩ := HR.out
      refine ⟨O2, ?_, (Fr.of_below HP.out.clean HBB.out).trans (F2.mono sf_mine)⟩
      have e : M.nodes.toNat = k := by rw [HN1.out]; exact Int.toNat_natCast k
      rw [e]; exact P2
end Go.Proofs.YtcaakiaenfkeaaaGreat.peq
