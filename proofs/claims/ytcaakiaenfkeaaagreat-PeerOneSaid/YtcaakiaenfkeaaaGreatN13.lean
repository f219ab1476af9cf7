/-
  propose: what is to be proposed is voted for, as far as there is room.
-/
import Derived.Test.YtcaakiaenfkeaaaGreatN10
import Derived.Test.YtcaakiaenfkeaaaGreatN11
import Derived.Test.YtcaakiaenfkeaaaGreatN12
import Derived.Deep.CutBlock
import Derived.StillTailTactics
namespace Go.Proofs.YtcaakiaenfkeaaaGreat.pepr
open Go.ChangeShapes Go.WideShapes Go.ChangeAt Go.RowKit
open Go.Proofs.YtcaakiaenfkeaaaGreat.kit Go.Proofs.YtcaakiaenfkeaaaGreat.mapkit Go.Proofs.YtcaakiaenfkeaaaGreat.byt Go.Proofs.YtcaakiaenfkeaaaGreat.own Go.Proofs.YtcaakiaenfkeaaaGreat.accd Go.Proofs.YtcaakiaenfkeaaaGreat.accb Go.Proofs.YtcaakiaenfkeaaaGreat.acce Go.Proofs.YtcaakiaenfkeaaaGreat.chd Go.Proofs.YtcaakiaenfkeaaaGreat.che Go.Proofs.YtcaakiaenfkeaaaGreat.ownr Go.Proofs.YtcaakiaenfkeaaaGreat.pep Go.Proofs.YtcaakiaenfkeaaaGreat.peb Go.Proofs.YtcaakiaenfkeaaaGreat.pem Go.Proofs.YtcaakiaenfkeaaaGreat.pen Go.Proofs.YtcaakiaenfkeaaaGreat.pes Go.Proofs.YtcaakiaenfkeaaaGreat.pet
set_option linter.unusedVariables false
set_option linter.unusedSimpArgs false
set_option maxHeartbeats 4000000
set_option maxRecDepth 100000

/-- What propose and advance leave. -/
def Post (w : World) (O : Owners) (i pb : Nat) (X : PD) (e : Ending) (w' : World) : Prop := e = .returned (.tuple #[]) ∧ ∃ M', M'.dat = X ∧ Behind w O i pb (Mine i) w' M'
def AdvOk (n : Nat) : Prop := ∀ (w : World) (O : Owners) (i pb : Nat) (M : PM), PeerAt w O i pb M → PdOk M.dat → 2 * M.dat.wt + 1 ≤ n →
    Calls Tryz.prog 35 #[.pointer (some ⟨pb, 0, none⟩)] w (Post w O i pb (PD.advance n M.dat))
def ProOk (n : Nat) : Prop := ∀ (w : World) (O : Owners) (i pb : Nat) (M : PM), PeerAt w O i pb M → PdOk M.dat → M.leads = true → 2 * M.dat.wt + 2 ≤ n →
    Calls Tryz.prog 16 #[.pointer (some ⟨pb, 0, none⟩)] w (Post w O i pb (PD.propose n M.dat))
/-- At the head of propose's loop. -/
def LoopP (w : World) (O : Owners) (i pb : Nat) (M : PM) (wr : World) (M' : PM) : Prop :=
  Behind w O i pb (Mine i) wr M' ∧ PdOk M'.dat ∧ M'.dat.wt ≤ M.dat.wt ∧ M'.leads = true ∧ PD.props M'.dat.todo.length M'.dat = PD.props M.dat.todo.length M.dat
def lenC (w : World) (p : Addr) : Nat := match w.cell? p with | some (.slice _ n _) => n | _ => 0

/-- A member's tags but those of its boxes and of the block that no part names. -/
def N9 (i : Nat) (t : Tag) : Prop := t.1 = i ∧ t.2 ≠ 9 ∧ t.2 < 20
theorem n9_ro {i : Nat} (h : i ≠ 0) : ¬ N9 i ro := fun hh => h hh.1.symm
theorem n9_nine {i : Nat} : ¬ N9 i (i, 9) := fun hh => hh.2.1 rfl
theorem n9_mine {i : Nat} : ∀ t, N9 i t → Mine i t := fun t hh => ⟨hh.1, hh.2.2⟩
theorem sf_n9 {i f : Nat} (hf : f ≠ 9 ∧ f < 20 := by decide) : ∀ t, Sf i f t → N9 i t := by
  rintro t (rfl | rfl)
  · exact ⟨rfl, (by decide : (1 : Nat) ≠ 9), (by decide : (1 : Nat) < 20)⟩
  · exact ⟨rfl, hf.1, hf.2⟩
/-- A thing with one voter is put into the log. -/
theorem put_at {w : World} {O : Owners} {i pb ob : Nat} {M : PM} {L : LogM} (h : PeerAt w O i pb M) (hob : M.ob = some (ob, L)) (s : Int) (b : Sl Nat) (nd : Int) (hp : logq.putE L.first 1024 s = 0) (hs : -9223372036854775808 ≤ s ∧ s ≤ 9223372036854775807) (hb : RoB w b) :
    Calls Tryz.prog 33 #[.pointer (some ⟨ob, 0, none⟩), .int .i64 s, .agg #[.slice b.a b.l.length b.c, .slice (some ⟨w.heap.size, 0, none⟩) 1 1]] (w.alloc (.cells #[.int .i64 nd] 3)) fun e w' => e = .returned (.int .i64 0) ∧
      Behind w O i pb (Sf i 4) w' { M with ob := some (ob, logPut L s (b, ⟨some ⟨w.heap.size, 0, none⟩, 1, [nd]⟩)) } := by
  have hbb : Below w.heap.size w (w.alloc (.cells #[.int .i64 nd] 3)) := below_new1 _ _
  have P1 := PeerAt.below h hbb
  have hlo : LogOk (w.alloc (.cells #[.int .i64 nd] 3)) O (i, 4) ob L := P1.parts.opn (fun x => x) _ hob
  refine (logq.put_ty (w.alloc (.cells #[.int .i64 nd] 3)) 0 ob L.first 1024 (L.cs.map rawC) s (rawE (b, ⟨some ⟨w.heap.size, 0, none⟩, 1, [nd]⟩)) hlo.log hlo.fit (Nat.zero_le _) (logQ (w.alloc (.cells #[.int .i64 nd] 3)) ob ((w.alloc (.cells #[.int .i64 nd] 3)).heap.size + 1)) (fun k hk => .inr hk) (logq_not hlo) (fun g o n c hc => .inl ⟨o, n, c, hc⟩) hs.1 hs.2).mono ?_
  rintro e w' ⟨rfl, h1, h2, h3, h4⟩
  rw [hp]
  obtain ⟨O2, P2, F2⟩ := peer_put P1 hob (hb.below hbb) (show RoI (w.alloc (.cells #[.int .i64 nd] 3)) ⟨some ⟨w.heap.size, 0, none⟩, 1, [nd]⟩ from roi_new w [nd] (by simp)) h1 h2 h3 h4
  exact ⟨rfl, O2, P2, (Fr.of_below h.clean hbb).trans F2⟩

theorem offer_dat (M : PM) (dst s : Int) (d : List Nat) (a a1 a2 : Option Addr) (c c1 c2 : Nat) : PM.dat { M with lt := ⟨a, c, M.lt.l ++ [peo.offL M dst s d a1 a2 c1 c2]⟩ } = M.dat.offer dst s d := by
  have e : (peo.offL M dst s d a1 a2 c1 c2).dat = { ({ lt0 with kind := 3, b := M.dat.own, slot := s, commit := if 0 < M.dat.taken then 0 else M.dat.commit, ents := [(s, d)] } : Lt) with fr := M.dat.node, dst := dst } := by
    have h1 : M.dat.commit = M.index + M.en.l.length := by show M.index + ((M.en.l.map le).length : Int) = _; rw [List.length_map]
    rw [h1]; rfl
  unfold PD.offer PD.tell
  rw [← e]
  simp only [PM.dat, List.map_append, List.map_singleton]
/-- At the head of the inner loop: the offers to the nodes 1 .. k are told. -/
def Inner (w : World) (O : Owners) (i pb eb : Nat) (e : Et) (M11 : PM) (wx : World) (M3 : PM) (k : Nat) : Prop :=
  ∃ O3, PeerAt wx O3 i pb M3 ∧ Fr (Mine i) w O wx O3 ∧ M3.dat = M11.dat.offersK e.s e.l k ∧ wx.heap[eb]? = some (.cells #[.int .i64 e.s, .slice e.a e.l.length e.c] 47 (0, 0)) ∧ RoB wx ⟨e.a, e.c, e.l⟩ ∧ O3 eb = ro
theorem propose_step (n : Nat) (hadv : AdvOk n) : ProOk (n + 1) := by
  intro w O i pb M h hg hl hw
  have HADV := Lib.hid hadv
  have HW := Lib.hid hw
  have H0 : Hid (LoopP w O i pb M w M) := ⟨⟨O, h, Fr.refl _ h.clean⟩, hg, Nat.le_refl _, hl, rfl⟩
  have HP := Lib.hid h
  clear hadv h hg hl hw
  go_enter Tryz.func16, Tryz.ntmps16
  go_wp2_with fail
  go_loopw [5] (fun t wr => ∃ M2, Hid (LoopP w O i pb M wr M2)) (fun t wr => lenC wr ⟨pb, 38, none⟩)
  case atStart => exact ⟨M, H0⟩
  case round =>
    obtain ⟨M2, HL⟩ := hrel
    obtain ⟨⟨O2, P2, F2⟩, G2, hw2, hl2, hp2⟩ := HL.out
    have x38 : wr.cell? ⟨pb, 38, none⟩ = some (.slice M2.td.a M2.td.l.length M2.td.c) := (kit.blk P2.blk).1 38
    have hlc : lenC wr ⟨pb, 38, none⟩ = M2.td.l.length := by rw [lenC, x38]
    have HLC := Lib.hid hlc
    have HP2 := Lib.hid P2
    have HF2 := Lib.hid F2
    have HG2 := Lib.hid G2
    have HW2 := Lib.hid hw2
    have HL2 := Lib.hid hl2
    have HPP := Lib.hid hp2
    clear P2 F2 G2 hw2 hl2 hp2 hlc HL
    obtain ⟨ta, tc, tl, htd⟩ : ∃ ta tc tl, M2.td = ⟨ta, tc, tl⟩ := ⟨_, _, _, rfl⟩
    cases tl with
    | nil =>
      rw [htd] at x38
      have ht0 : M2.dat.todo = [] := by show M2.td.l.map le = []; rw [htd]; rfl
      have HA := Lib.hid (HADV.out wr O2 i pb M2 HP2.out HG2.out (by have := HW2.out; have := HW.out; omega))
      have HT0 := Lib.hid ht0
      clear ht0 htd
      go_wp2_with (go_at_call 35; refine HA.out.mono ?_; rintro e w9 ⟨rfl, M9, hd9, hB9⟩; have HD9 := Lib.hid hd9; have HB9 := Lib.hid hB9; clear hd9 hB9)
      refine bodyPost_end (v := .tuple #[]) (by simp [results, Tryz.results16, go_sem]) rfl ⟨rfl, M9, ?_, ?_⟩
      · rw [HD9.out, pro_eq, ← HPP.out, HT0.out, List.length_nil]; rfl
      · obtain ⟨O9, P9, F9⟩ := HB9.out
        exact ⟨O9, P9, HF2.out.trans F9⟩
    | cons e l =>
      have T := HP2.out.parts.tdo (fun x => x)
      rw [htd] at T
      obtain ⟨b, off, rfl, hbz, y0, y1, hlc2, hrb, T2⟩ := todo_head T
      rw [htd] at x38
      dsimp only at x38
      obtain ⟨nl, hnl⟩ : ∃ nl, nl = (e :: l).length := ⟨_, rfl⟩
      rw [← hnl] at x38
      have hpos : 0 < nl := by rw [hnl]; simp
      have HNL := Lib.hid hnl
      have HT2 := Lib.hid T2
      have HRB := Lib.hid hrb
      have HTD := Lib.hid htd
      have HTC := Lib.hid hlc2
      obtain ⟨w2, hw2⟩ : ∃ w2, w2 = wr.alloc (.cells #[.int .i64 e.s, .slice e.a e.l.length e.c] 47) := ⟨_, rfl⟩
      have hb2 : Below wr.heap.size wr w2 := by rw [hw2]; exact below_new1 _ _
      have hn2 : w2.heap[wr.heap.size]? = some (.cells #[.int .i64 e.s, .slice e.a e.l.length e.c] 47 (0, 0)) := by rw [hw2]; exact hp_alloc_new _ _
      have HB2 := Lib.hid hb2
      have HN2 := Lib.hid hn2
      have HE2 := Lib.hid hw2
      obtain ⟨eb, heb⟩ : ∃ eb, eb = wr.heap.size := ⟨_, rfl⟩
      have HEB := Lib.hid heb
      have P2 := PeerAt.below HP2.out hb2
      have HP3 := Lib.hid P2
      clear T T2 hnl hrb htd hlc2 hb2 hn2 hw2 heb P2
      go_upto_region 2 with fail
      rw [← HE2.out, ← HEB.out]
      have q0 : w2.cell? ⟨eb, 0, none⟩ = some (.int .i64 e.s) := by have := (blk2 HN2.out).1; rw [← HEB.out] at this; exact this
      have hCi : 0 ≤ M2.index ∧ M2.index ≤ 4398046511104 := by have h1 := HG2.out.i0; have h2 := HG2.out.en; exact ⟨h1, (by show M2.dat.index ≤ _; omega)⟩
      have hCe : M2.en.l.length ≤ 1000000000 := by have h1 := HG2.out.i0; have h2 := HG2.out.en; have h3 : M2.dat.entries.length = M2.en.l.length := List.length_map _; omega
      have HCI := Lib.hid hCi
      have HCE := Lib.hid hCe
      have hStab : ∀ Wx Wy : World, Below Wx.heap.size Wx Wy → (Wx.cell? ⟨eb, 0, none⟩ = some (.int .i64 e.s) ∧ Below w2.heap.size w2 Wx) → (Wy.cell? ⟨eb, 0, none⟩ = some (.int .i64 e.s) ∧ Below w2.heap.size w2 Wy) := by
        intro Wx Wy kk hs
        exact ⟨cell_step hs.1 kk, below_step hs.2 kk⟩
      have HST := Lib.hid hStab
      have LC : Hid (∀ Wx : World, (Wx.cell? ⟨eb, 0, none⟩ = some (.int .i64 e.s) ∧ Below w2.heap.size w2 Wx) → Calls Tryz.prog 12 #[.pointer (some ⟨pb, 0, none⟩)] Wx fun e w' => e = .returned (.int .i64 (M2.index + M2.en.l.length)) ∧ Below Wx.heap.size Wx w') := by
        intro Wx hs
        exact commit_ok Wx O2 i pb M2 (PeerAt.below HP3.out hs.2) HCI.out (by have := HCE.out; omega)
      clear hStab hCi hCe
      by_cases hs : e.s ≤ M2.index + M2.en.l.length
      · have t1 : decide (e.s ≤ M2.index + (M2.en.l.length : Int)) = true := decide_eq_true hs
        have HS := Lib.hid hs
        as_aux_lemma =>
          go_region_held3 (fun w' => w'.cell? ⟨eb, 0, none⟩ = some (.int .i64 e.s) ∧ Below w2.heap.size w2 w') (first | (exact ⟨q0, below_drewN (Below.refl _ _) 1⟩) | (refine HST.out _ _ hbn ?_; assumption)) (first | (go_at_call 12; refine (LC.out _ (by assumption)).mono ?_; rintro e wn ⟨rfl, hbn⟩))
          have hS4 : wn.cell? ⟨eb, 0, none⟩ = some (.int .i64 e.s) ∧ Below w2.heap.size w2 wn := by assumption
          have P4 := PeerAt.below HP3.out hS4.2
          have HB4 := Lib.hid (below_step HB2.out hS4.2)
          have z38 : wn.cell? ⟨pb, 38, none⟩ = some (.slice (some ⟨b, off, none⟩) nl tc) := by
            have := (kit.blk P4.blk).1 38
            rw [HNL.out]
            have e4 : (pcells M2)[38]? = some M2.td.val := rfl
            rw [this, e4, HTD.out]; rfl
          have f38 : wn.frozen? ⟨pb, 38, none⟩ = false := (kit.blk P4.blk).2.1 38
          have hpz := (kit.blk P4.blk).2.2
          have HP4 := Lib.hid P4
          clear hS4 P4
          go_wp2_with fail
          obtain ⟨O5, P5, F5⟩ := peer_td HP4.out (s := ⟨if tc = 1 then some ⟨b, off, none⟩ else some ⟨b, off + 2, none⟩, tc - 1, l⟩) (HT2.out.fr (fun x => x) (Fr.of_below (S := fun _ => False) HP2.out.clean HB4.out))
          have hv : (Sl.val (⟨if tc = 1 then some ⟨b, off, none⟩ else some ⟨b, off + 2, none⟩, tc - 1, l⟩ : Sl Et)) = .slice (if tc = 1 then some ⟨b, off, none⟩ else some ⟨b, off + 2, none⟩) (nl - 1) (tc - 1) := by rw [HNL.out]; rfl
          rw [hv] at P5 F5
          have htt : M2.dat.todo = (e.s, e.l) :: l.map le := by show M2.td.l.map le = _; rw [HTD.out]; rfl
          obtain ⟨g5, e5⟩ := good_skip HG2.out htt
          have hd5 : PM.dat { M2 with td := ⟨if tc = 1 then some ⟨b, off, none⟩ else some ⟨b, off + 2, none⟩, tc - 1, l⟩ } = { M2.dat with todo := l.map le } := rfl
          have hp1 := prop1_skip htt (show e.s ≤ M2.dat.commit from by show e.s ≤ M2.index + ((M2.en.l.map le).length : Int); rw [List.length_map]; exact HS.out)
          refine ⟨⟨_, ⟨O5, P5, HF2.out.trans ((Fr.of_below HP2.out.clean HB4.out).trans (F5.mono sf_mine))⟩, ?_, ?_, HL2.out, ?_⟩, ?_⟩
          · rw [hd5]; exact g5
          · exact Nat.le_trans (Nat.le_of_succ_le (Nat.le_of_eq e5)) HW2.out
          · rw [hd5, ← HPP.out]
            exact (props_step hp1 (by rw [htt]; rfl)).symm
          · have e6 : lenC (wn.setCell ⟨pb, 38, none⟩ (.slice (if tc = 1 then some ⟨b, off, none⟩ else some ⟨b, off + 2, none⟩) (nl - 1) (tc - 1))) ⟨pb, 38, none⟩ = nl - 1 := by
              unfold lenC
              have e7 : (pcells { M2 with td := ⟨if tc = 1 then some ⟨b, off, none⟩ else some ⟨b, off + 2, none⟩, tc - 1, l⟩ })[38]? = some (Sl.val (⟨if tc = 1 then some ⟨b, off, none⟩ else some ⟨b, off + 2, none⟩, tc - 1, l⟩ : Sl Et)) := rfl
              rw [(kit.blk P5.blk).1 38, e7, hv]
            rw [e6, HLC.out, HTD.out, HNL.out]
            simp
      · have t1 : decide (e.s ≤ M2.index + (M2.en.l.length : Int)) = false := decide_eq_false hs
        have HS := Lib.hid hs
        as_aux_lemma =>
          go_region_held3 (fun w' => w'.cell? ⟨eb, 0, none⟩ = some (.int .i64 e.s) ∧ Below w2.heap.size w2 w') (first | (exact ⟨q0, below_drewN (Below.refl _ _) 1⟩) | (refine HST.out _ _ hbn ?_; assumption)) (first | (go_at_call 12; refine (LC.out _ (by assumption)).mono ?_; rintro e wn ⟨rfl, hbn⟩))
          have hS4 : wn.cell? ⟨eb, 0, none⟩ = some (.int .i64 e.s) ∧ Below w2.heap.size w2 wn := by assumption
          have P4 := PeerAt.below HP3.out hS4.2
          have HB4 := Lib.hid (below_step HB2.out hS4.2)
          have hn4 := hp_step HN2.out hS4.2
          have HN4 := Lib.hid hn4
          obtain ⟨q0, q1, -, -, qz⟩ := blk2 hn4
          rw [← HEB.out] at q0 q1 qz
          have x10 : wn.cell? ⟨pb, 10, none⟩ = some (.int .i64 M2.o1) := (kit.blk P4.blk).1 10
          have x11 : wn.cell? ⟨pb, 11, none⟩ = some (.int .i64 M2.o2) := (kit.blk P4.blk).1 11
          have hpz := (kit.blk P4.blk).2.2
          have HP4 := Lib.hid P4
          clear hS4 P4 hn4
          go_upto_region 4 with fail
          go_region
          obtain ⟨w4, hw4⟩ : ∃ w4 : World, w4 = (wn.alloc (.cells #[.int .i64 e.s, .int .i64 M2.o1, .int .i64 M2.o2, .slice e.a e.l.length e.c] 45)).drew := ⟨_, rfl⟩
          rw [← hw4]
          obtain ⟨P5, F5⟩ := PeerAt.nine HP4.out (.cells #[.int .i64 e.s, .int .i64 M2.o1, .int .i64 M2.o2, .slice e.a e.l.length e.c] 45)
          rw [← hw4] at P5 F5
          obtain ⟨vb, hvb⟩ : ∃ vb, vb = wn.heap.size := ⟨_, rfl⟩
          rw [← hvb]
          obtain ⟨O4, hO4⟩ : ∃ O4, O4 = O2.put vb (i, 9) := ⟨_, rfl⟩
          rw [← hvb] at P5 F5
          rw [← hO4] at P5 F5
          have hnv : w4.heap[vb]? = some (.cells #[.int .i64 e.s, .int .i64 M2.o1, .int .i64 M2.o2, .slice e.a e.l.length e.c] 45 (0, 0)) := by rw [hw4, hvb]; exact hp_alloc_new wn _
          have htv : O4 vb = (i, 9) := by rw [hO4]; exact put_self _ _ _
          have hne4 : w4.heap[eb]? = some (.cells #[.int .i64 e.s, .slice e.a e.l.length e.c] 47 (0, 0)) := by
            rw [HEB.out]; exact F5.hp HN4.out (fun x => x)
          have hte : O4 eb = ro := by
            rw [F5.own eb qz, HEB.out]; exact HP2.out.clean _ (Nat.le_refl _)
          have F24 : Fr (Mine i) w O w4 O4 := HF2.out.trans ((Fr.of_below HP2.out.clean HB4.out).trans (F5.mono (fun _ hf => hf.elim)))
          have T4 := HT2.out.fr (fun x => x) ((Fr.of_below (S := fun _ => False) HP2.out.clean HB4.out).trans F5)
          have R4 : RoB w4 ⟨e.a, e.c, e.l⟩ := HRB.out.fr ((Fr.of_below (S := fun _ => False) HP2.out.clean HB4.out).trans F5)
          obtain ⟨⟨ob, L⟩, hob⟩ : ∃ x, M2.ob = some x := by
            obtain ⟨L, h1, -⟩ := HG2.out.opn HL2.out
            have h1 : M2.ob.map (fun x => x.2.dat) = some L := h1
            cases hh : M2.ob with
            | none => rw [hh] at h1; simp at h1
            | some x => exact ⟨x, rfl⟩
          have HOB := Lib.hid hob
          have HP5 := Lib.hid P5
          have HF24 := Lib.hid F24
          have HT4 := Lib.hid T4
          have HR4 := Lib.hid R4
          have HNV := Lib.hid hnv
          have HTV := Lib.hid htv
          have HNE := Lib.hid hne4
          have HTE := Lib.hid hte
          have hbd : Below w4.heap.size w4 w4.drew := below_drewN (Below.refl _ w4) 1
          have hnz : e.s ≥ -9223372036854775808 ∧ e.s ≤ 9223372036854775807 := HG2.out.tds (e.s, e.l) (by
            show _ ∈ M2.td.l.map le
            rw [HTD.out]; exact List.mem_cons_self ..)
          obtain ⟨E, hE⟩ : ∃ E, E = accE M2.A.r M2.A.n M2.A.first ⟨e.s, M2.o1, M2.o2, e.l⟩ := ⟨_, rfl⟩
          have HACC := Lib.hid (accept_ok w4.drew 0 M2.ab M2.mb M2.A ⟨e.s, M2.o1, M2.o2, e.l, e.a, e.c⟩ ((PeerAt.below P5 hbd).parts.acc (fun x => x)).1 (Nat.zero_le _) (rd2_of (b := ⟨e.a, e.c, e.l⟩) (R4.below hbd)) hnz.1 hnz.2)
          have HNZ := Lib.hid hnz
          have HE := Lib.hid hE
          obtain ⟨v0, v1, v2, v3, -⟩ := blk4 hnv
          obtain ⟨q0, q1, -, -, qz⟩ := blk2 hne4
          have x2 : w4.cell? ⟨pb, 2, none⟩ = some (.pointer (some ⟨M2.ab, 0, none⟩)) := (kit.blk P5.blk).1 2
          have x0 : w4.cell? ⟨pb, 0, none⟩ = some (.int .i64 M2.node) := (kit.blk P5.blk).1 0
          have x37 : w4.cell? ⟨pb, 37, none⟩ = some (.pointer (some ⟨ob, 0, none⟩)) := by
            have h1 := (kit.blk P5.blk).1 37
            have h2 : (pcells M2)[37]? = some (optP (M2.ob.map Prod.fst)) := rfl
            rw [h1, h2, hob]; rfl
          have HWW := Lib.hid hw4
          have HVB := Lib.hid hvb
          rw [show accE M2.A.r M2.A.n M2.A.first (lv ⟨e.s, M2.o1, M2.o2, e.l, e.a, e.c⟩) = E from hE.symm] at HACC
          simp only [Vt.val] at HACC
          have READS : Hid (∀ (Wx : World) (Ox : Owners) (Mx : PM), PeerAt Wx Ox i pb Mx → Mx.ab = M2.ab → Mx.node = M2.node → Mx.ob.map Prod.fst = some ob → Wx.heap[eb]? = some (.cells #[.int .i64 e.s, .slice e.a e.l.length e.c] 47 (0, 0)) → Wx.heap[vb]? = some (.cells #[.int .i64 e.s, .int .i64 M2.o1, .int .i64 M2.o2, .slice e.a e.l.length e.c] 45 (0, 0)) → (Wx.cell? ⟨pb, 2, none⟩ = some (.pointer (some ⟨M2.ab, 0, none⟩)) ∧ Wx.cell? ⟨pb, 0, none⟩ = some (.int .i64 M2.node) ∧ Wx.cell? ⟨pb, 37, none⟩ = some (.pointer (some ⟨ob, 0, none⟩)) ∧ Wx.cell? ⟨eb, 0, none⟩ = some (.int .i64 e.s) ∧ Wx.cell? ⟨eb, 1, none⟩ = some (.slice e.a e.l.length e.c) ∧ Wx.cell? ⟨vb, 0, none⟩ = some (.int .i64 e.s) ∧ Wx.cell? ⟨vb, 1, none⟩ = some (.int .i64 M2.o1) ∧ Wx.cell? ⟨vb, 2, none⟩ = some (.int .i64 M2.o2) ∧ Wx.cell? ⟨vb, 3, none⟩ = some (.slice e.a e.l.length e.c))) := by
            intro Wx Ox Mx hP e1 e2 e3 b1 b2
            obtain ⟨v0, v1, v2, v3, -⟩ := blk4 b2
            obtain ⟨q0, q1, -⟩ := blk2 b1
            have y2 : Wx.cell? ⟨pb, 2, none⟩ = some (.pointer (some ⟨Mx.ab, 0, none⟩)) := (kit.blk hP.blk).1 2
            have y0 : Wx.cell? ⟨pb, 0, none⟩ = some (.int .i64 Mx.node) := (kit.blk hP.blk).1 0
            have y37 : Wx.cell? ⟨pb, 37, none⟩ = some (optP (Mx.ob.map Prod.fst)) := (kit.blk hP.blk).1 37
            rw [e1] at y2
            rw [e2] at y0
            rw [e3] at y37
            exact ⟨y2, y0, y37, q0, q1, v0, v1, v2, v3⟩
          have ACCARM : Hid (∀ (w5 : World), AccIs w5 0 M2.ab M2.mb (accS M2.A ⟨e.s, M2.o1, M2.o2, e.l⟩) → Keep (fun k => k = M2.ab ∨ k = M2.mb) w4.drew w5 → ∃ O5, PeerAt w5 O5 i pb { M2 with A := accS M2.A ⟨e.s, M2.o1, M2.o2, e.l⟩ } ∧ Fr (N9 i) w4 O4 w5 O5 ∧ (w5.cell? ⟨pb, 2, none⟩ = some (.pointer (some ⟨M2.ab, 0, none⟩)) ∧ w5.cell? ⟨pb, 0, none⟩ = some (.int .i64 M2.node) ∧ w5.cell? ⟨pb, 37, none⟩ = some (.pointer (some ⟨ob, 0, none⟩)) ∧ w5.cell? ⟨eb, 0, none⟩ = some (.int .i64 e.s) ∧ w5.cell? ⟨eb, 1, none⟩ = some (.slice e.a e.l.length e.c) ∧ w5.cell? ⟨vb, 0, none⟩ = some (.int .i64 e.s) ∧ w5.cell? ⟨vb, 1, none⟩ = some (.int .i64 M2.o1) ∧ w5.cell? ⟨vb, 2, none⟩ = some (.int .i64 M2.o2) ∧ w5.cell? ⟨vb, 3, none⟩ = some (.slice e.a e.l.length e.c))) := by
            intro w5 hA5 hk5
            obtain ⟨O5, P6, F6⟩ := peer_acc (PeerAt.below HP5.out hbd) hA5 hk5
            have F7 := (Fr.of_below (S := N9 i) HP5.out.clean hbd).trans (F6.mono sf_n9)
            exact ⟨O5, P6, F7, READS.out w5 O5 _ P6 rfl rfl (by show M2.ob.map Prod.fst = _; rw [HOB.out]; rfl) (F7.hp HNE.out (by rw [HTE.out]; exact n9_ro HP5.out.me)) (F7.hp HNV.out (by rw [HTV.out]; exact n9_nine))⟩
          clear P5 F5 hnv htv hne4 hte F24 T4 R4 hob hbd hnz hE hw4 hvb x10 x11 hO4 HST LC t1
          by_cases h0 : E = 0
          · subst h0
            have htt : M2.dat.todo = (e.s, e.l) :: l.map le := by show M2.td.l.map le = _; rw [HTD.out]; rfl
            have hopn : M2.dat.opn = some L.dat := by show M2.ob.map (fun x => x.2.dat) = _; rw [HOB.out]; rfl
            have hcm : M2.dat.commit = M2.index + M2.en.l.length := by show M2.index + ((M2.en.l.map le).length : Int) = _; rw [List.length_map]
            have hpe : L.dat.putE e.s = 0 := acc_put HG2.out HL2.out hopn (v := ⟨e.s, M2.o1, M2.o2, e.l⟩) HE.out.symm
            have hfs : L.dat.first = M2.dat.commit + 1 := by
              obtain ⟨L', k1, k2⟩ := HG2.out.opn HL2.out
              rw [hopn] at k1
              rw [Option.some.inj k1]; exact k2
            obtain ⟨GP, WP, LP⟩ := good_prop2 HG2.out htt hopn hfs
            have hp1 := prop1_go htt (by rw [hcm]; have := HS.out; omega) HE.out.symm hopn hpe
            have PRS : Hid (PD.props (l.map le).length (M2.dat.prop2 L.dat e.s e.l (l.map le)) = PD.props M.dat.todo.length M.dat) := by
              have hto : (M2.dat.prop2 L.dat e.s e.l (l.map le)).todo = l.map le := by
                obtain ⟨X, -, eX⟩ := offersK_eq (({ M2.dat with A := accS M2.dat.A ⟨e.s, M2.dat.own.1, M2.dat.own.2, e.l⟩, opn := some (L.dat.put e.s (e.l, [M2.dat.node])), todo := l.map le } : PD).note (.vote ⟨e.s, M2.dat.own.1, M2.dat.own.2, e.l⟩)) e.s e.l M2.dat.nodes.toNat
                have eY : M2.dat.prop2 L.dat e.s e.l (l.map le) = _ := eX
                rw [eY]; rfl
              have h3 := props_step hp1 (by rw [hto, htt]; rfl)
              rw [hto] at h3
              exact h3.symm.trans HPP.out
            have HPUT : Hid (∀ (w5 : World) (O5 : Owners), PeerAt w5 O5 i pb { M2 with A := accS M2.A ⟨e.s, M2.o1, M2.o2, e.l⟩ } → Fr (N9 i) w4 O4 w5 O5 → Calls Tryz.prog 33 #[.pointer (some ⟨ob, 0, none⟩), .int .i64 e.s, .agg #[.slice e.a e.l.length e.c, .slice (some ⟨w5.heap.size, 0, none⟩) 1 1]] (w5.alloc (.cells #[.int .i64 M2.node] 3)) fun ee w' => ee = .returned (.int .i64 0) ∧
                Behind w5 O5 i pb (Sf i 4) w' { M2 with A := accS M2.A ⟨e.s, M2.o1, M2.o2, e.l⟩, ob := some (ob, logPut L e.s (⟨e.a, e.c, e.l⟩, ⟨some ⟨w5.heap.size, 0, none⟩, 1, [M2.node]⟩)) }) :=
              fun w5 O5 h5 f5 => put_at h5 HOB.out e.s ⟨e.a, e.c, e.l⟩ M2.node hpe HNZ.out (HR4.out.fr f5)
            have PUTARM : Hid (∀ (w5 : World) (O5 : Owners), Fr (N9 i) w4 O4 w5 O5 → ∀ (w7 : World) (O7 : Owners) (M7 : PM), PeerAt w7 O7 i pb M7 → Fr (Sf i 4) w5 O5 w7 O7 → M7.ab = M2.ab → M7.node = M2.node → M7.ob.map Prod.fst = some ob → Fr (N9 i) w4 O4 w7 O7 ∧ (w7.cell? ⟨pb, 2, none⟩ = some (.pointer (some ⟨M2.ab, 0, none⟩)) ∧ w7.cell? ⟨pb, 0, none⟩ = some (.int .i64 M2.node) ∧ w7.cell? ⟨pb, 37, none⟩ = some (.pointer (some ⟨ob, 0, none⟩)) ∧ w7.cell? ⟨eb, 0, none⟩ = some (.int .i64 e.s) ∧ w7.cell? ⟨eb, 1, none⟩ = some (.slice e.a e.l.length e.c) ∧ w7.cell? ⟨vb, 0, none⟩ = some (.int .i64 e.s) ∧ w7.cell? ⟨vb, 1, none⟩ = some (.int .i64 M2.o1) ∧ w7.cell? ⟨vb, 2, none⟩ = some (.int .i64 M2.o2) ∧ w7.cell? ⟨vb, 3, none⟩ = some (.slice e.a e.l.length e.c))) := by
              intro w5 O5 f5 w7 O7 M7 P7 f7 e1 e2 e3
              have F7 := f5.trans (f7.mono sf_n9)
              exact ⟨F7, READS.out w7 O7 M7 P7 e1 e2 e3 (F7.hp HNE.out (by rw [HTE.out]; exact n9_ro HP5.out.me)) (F7.hp HNV.out (by rw [HTV.out]; exact n9_nine))⟩
            have ALLOCS : ∀ (w5 : World), (w5.cell? ⟨pb, 2, none⟩ = some (.pointer (some ⟨M2.ab, 0, none⟩)) ∧ w5.cell? ⟨pb, 0, none⟩ = some (.int .i64 M2.node) ∧ w5.cell? ⟨pb, 37, none⟩ = some (.pointer (some ⟨ob, 0, none⟩)) ∧ w5.cell? ⟨eb, 0, none⟩ = some (.int .i64 e.s) ∧ w5.cell? ⟨eb, 1, none⟩ = some (.slice e.a e.l.length e.c) ∧ w5.cell? ⟨vb, 0, none⟩ = some (.int .i64 e.s) ∧ w5.cell? ⟨vb, 1, none⟩ = some (.int .i64 M2.o1) ∧ w5.cell? ⟨vb, 2, none⟩ = some (.int .i64 M2.o2) ∧ w5.cell? ⟨vb, 3, none⟩ = some (.slice e.a e.l.length e.c)) → ∀ o : Obj, ((w5.alloc o).cell? ⟨pb, 2, none⟩ = some (.pointer (some ⟨M2.ab, 0, none⟩)) ∧ (w5.alloc o).cell? ⟨pb, 0, none⟩ = some (.int .i64 M2.node) ∧ (w5.alloc o).cell? ⟨pb, 37, none⟩ = some (.pointer (some ⟨ob, 0, none⟩)) ∧ (w5.alloc o).cell? ⟨eb, 0, none⟩ = some (.int .i64 e.s) ∧ (w5.alloc o).cell? ⟨eb, 1, none⟩ = some (.slice e.a e.l.length e.c) ∧ (w5.alloc o).cell? ⟨vb, 0, none⟩ = some (.int .i64 e.s) ∧ (w5.alloc o).cell? ⟨vb, 1, none⟩ = some (.int .i64 M2.o1) ∧ (w5.alloc o).cell? ⟨vb, 2, none⟩ = some (.int .i64 M2.o2) ∧ (w5.alloc o).cell? ⟨vb, 3, none⟩ = some (.slice e.a e.l.length e.c)) := by
              intro w5 hs o
              obtain ⟨s0, s1, s2, s3, s4, s5, s6, s7, s8⟩ := hs
              exact ⟨cell_step s0 (below_new1 _ o), cell_step s1 (below_new1 _ o), cell_step s2 (below_new1 _ o), cell_step s3 (below_new1 _ o), cell_step s4 (below_new1 _ o), cell_step s5 (below_new1 _ o), cell_step s6 (below_new1 _ o), cell_step s7 (below_new1 _ o), cell_step s8 (below_new1 _ o)⟩
            have HGP := Lib.hid GP
            have HWP := Lib.hid WP
            have HLP := Lib.hid LP
            have HHT := Lib.hid htt
            have HOP := Lib.hid hopn
            have HCM := Lib.hid hcm
            have HAL := Lib.hid ALLOCS
            clear htt hopn hcm hpe hfs GP WP LP hp1 ALLOCS
            as_aux_lemma =>
              go_upto_region 5 with fail
              refine wp_region_held_drew (S := (fun w' => w'.cell? ⟨pb, 2, none⟩ = some (.pointer (some ⟨M2.ab, 0, none⟩)) ∧ w'.cell? ⟨pb, 0, none⟩ = some (.int .i64 M2.node) ∧ w'.cell? ⟨pb, 37, none⟩ = some (.pointer (some ⟨ob, 0, none⟩)) ∧ w'.cell? ⟨eb, 0, none⟩ = some (.int .i64 e.s) ∧ w'.cell? ⟨eb, 1, none⟩ = some (.slice e.a e.l.length e.c) ∧ w'.cell? ⟨vb, 0, none⟩ = some (.int .i64 e.s) ∧ w'.cell? ⟨vb, 1, none⟩ = some (.int .i64 M2.o1) ∧ w'.cell? ⟨vb, 2, none⟩ = some (.int .i64 M2.o2) ∧ w'.cell? ⟨vb, 3, none⟩ = some (.slice e.a e.l.length e.c))) (by kernel_rfl) ⟨x2, x0, x37, q0, q1, v0, v1, v2, v3⟩ (fun hHeld => ?_)
              refine kit6.take_y (i := 0) (v := ?_) rfl (by kernel_rfl) (by kernel_rfl) (by kernel_rfl) (fun _ _ _ h => h) (by rfl) (by assumption) ?_ ?_
              rotate_left
              · intro w hSw
                try dsimp only at hSw
                go_simp
                try with_reducible rfl
              try simp only [Act.put, List.setIfInBounds_toArray, List.set_cons_zero, List.set_cons_succ]
              refine kit6.take_y (i := 1) (v := ?_) rfl (by kernel_rfl) (by kernel_rfl) (by kernel_rfl) (fun _ _ _ h => h) (by rfl) (by assumption) ?_ ?_
              rotate_left
              · intro w hSw
                try dsimp only at hSw
                go_simp
                try with_reducible rfl
              try simp only [Act.put, List.setIfInBounds_toArray, List.set_cons_zero, List.set_cons_succ]
              refine kit6.take_y (i := 2) (v := ?_) rfl (by kernel_rfl) (by kernel_rfl) (by kernel_rfl) (fun _ _ _ h => h) (by rfl) (by assumption) ?_ ?_
              rotate_left
              · intro w hSw
                try dsimp only at hSw
                go_simp
                try with_reducible rfl
              try simp only [Act.put, List.setIfInBounds_toArray, List.set_cons_zero, List.set_cons_succ]
              refine kit6.take_y (i := 3) (v := ?_) rfl (by kernel_rfl) (by kernel_rfl) (by kernel_rfl) (fun _ _ _ h => h) (by rfl) (by assumption) ?_ ?_
              rotate_left
              · intro w hSw
                try dsimp only at hSw
                go_simp
                try with_reducible rfl
              try simp only [Act.put, List.setIfInBounds_toArray, List.set_cons_zero, List.set_cons_succ]
              refine kit6.take_y (i := 4) (v := ?_) rfl (by kernel_rfl) (by kernel_rfl) (by kernel_rfl) (fun _ _ _ h => h) (by rfl) (by assumption) ?_ ?_
              rotate_left
              · intro w hSw
                try dsimp only at hSw
                go_simp
                try with_reducible rfl
              try simp only [Act.put, List.setIfInBounds_toArray, List.set_cons_zero, List.set_cons_succ]
              refine kit6.take_y (i := 5) (v := ?_) rfl (by kernel_rfl) (by kernel_rfl) (by kernel_rfl) (fun _ _ _ h => h) (by rfl) (by assumption) ?_ ?_
              rotate_left
              · intro w hSw
                try dsimp only at hSw
                go_simp
                try with_reducible rfl
              try simp only [Act.put, List.setIfInBounds_toArray, List.set_cons_zero, List.set_cons_succ]
              refine wpAnyH_ready (rs := [6]) (by kernel_rfl) (by simp) ?_
              refine kit6.cons_l (i := 6) rfl (by rfl) (fun K hK => ?_) AllReadyH.nil
              go_simp
              go_at_call 32; refine HACC.out.mono ?_; rintro e5 w5 ⟨rfl, hA5, hk5⟩; obtain ⟨O5, P5, F5, hS5⟩ := ACCARM.out w5 hA5 hk5; have hS6 := HAL.out w5 hS5; have HP5b := Lib.hid P5; have HF5b := Lib.hid F5; clear hA5 hk5 P5 F5
              dsimp only
              refine hK.out _ _ (by first | assumption | exact hS6 _) (fun hHeld => ?_)
              clear hK K
              try simp only [Act.put, List.setIfInBounds_toArray, List.set_cons_zero, List.set_cons_succ]
              refine kit6.take_y (i := 7) (v := ?_) rfl (by kernel_rfl) (by kernel_rfl) (by kernel_rfl) (fun _ _ _ h => h) (by rfl) (by assumption) ?_ ?_
              rotate_left
              · intro w hSw
                try dsimp only at hSw
                go_simp
                try with_reducible rfl
              try simp only [Act.put, List.setIfInBounds_toArray, List.set_cons_zero, List.set_cons_succ]
              refine kit6.take_y (i := 8) (v := ?_) rfl (by kernel_rfl) (by kernel_rfl) (by kernel_rfl) (fun _ _ _ h => h) (by rfl) (by assumption) ?_ ?_
              rotate_left
              · intro w hSw
                try dsimp only at hSw
                go_simp
                try with_reducible rfl
              try simp only [Act.put, List.setIfInBounds_toArray, List.set_cons_zero, List.set_cons_succ]
              refine kit6.take_y (i := 9) (v := ?_) rfl (by kernel_rfl) (by kernel_rfl) (by kernel_rfl) (fun _ _ _ h => h) (by rfl) (by assumption) ?_ ?_
              rotate_left
              · intro w hSw
                try dsimp only at hSw
                go_simp
                try with_reducible rfl
              try simp only [Act.put, List.setIfInBounds_toArray, List.set_cons_zero, List.set_cons_succ]
              refine kit6.take_y (i := 10) (v := ?_) rfl (by kernel_rfl) (by kernel_rfl) (by kernel_rfl) (fun _ _ _ h => h) (by rfl) (by assumption) ?_ ?_
              rotate_left
              · intro w hSw
                try dsimp only at hSw
                go_simp
                try with_reducible rfl
              try simp only [Act.put, List.setIfInBounds_toArray, List.set_cons_zero, List.set_cons_succ]
              refine kit6.take_y (i := 11) (v := ?_) rfl (by kernel_rfl) (by kernel_rfl) (by kernel_rfl) (fun _ _ _ h => h) (by rfl) (by assumption) ?_ ?_
              rotate_left
              · intro w hSw
                try dsimp only at hSw
                go_simp
                try with_reducible rfl
              try simp only [Act.put, List.setIfInBounds_toArray, List.set_cons_zero, List.set_cons_succ]
              refine kit6.take_y (i := 12) (v := ?_) rfl (by kernel_rfl) (by kernel_rfl) (by kernel_rfl) (fun _ _ _ h => h) (by rfl) (by assumption) ?_ ?_
              rotate_left
              · intro w hSw
                try dsimp only at hSw
                go_simp
                try with_reducible rfl
              try simp only [Act.put, List.setIfInBounds_toArray, List.set_cons_zero, List.set_cons_succ]
              refine kit6.take_y (i := 13) (v := ?_) rfl (by kernel_rfl) (by kernel_rfl) (by kernel_rfl) (fun _ _ _ h => h) (by rfl) (by assumption) ?_ ?_
              rotate_left
              · intro w hSw
                try dsimp only at hSw
                go_simp
                try with_reducible rfl
              try simp only [Act.put, List.setIfInBounds_toArray, List.set_cons_zero, List.set_cons_succ]
              refine kit6.take_y (i := 14) (v := ?_) rfl (by kernel_rfl) (by kernel_rfl) (by kernel_rfl) (fun _ _ _ h => h) (by rfl) (by assumption) ?_ ?_
              rotate_left
              · intro w hSw
                try dsimp only at hSw
                go_simp
                try with_reducible rfl
              try simp only [Act.put, List.setIfInBounds_toArray, List.set_cons_zero, List.set_cons_succ]
              refine kit6.take_y (i := 15) (v := ?_) rfl (by kernel_rfl) (by kernel_rfl) (by kernel_rfl) (fun _ _ _ h => h) (by rfl) (by assumption) ?_ ?_
              rotate_left
              · intro w hSw
                try dsimp only at hSw
                go_simp
                try with_reducible rfl
              try simp only [Act.put, List.setIfInBounds_toArray, List.set_cons_zero, List.set_cons_succ]
              refine kit6.take_y (i := 16) (v := ?_) rfl (by kernel_rfl) (by kernel_rfl) (by kernel_rfl) (fun _ _ _ h => h) (by rfl) (by assumption) ?_ ?_
              rotate_left
              · intro w hSw
                try dsimp only at hSw
                go_simp
                try with_reducible rfl
              try simp only [Act.put, List.setIfInBounds_toArray, List.set_cons_zero, List.set_cons_succ]
              refine kit6.take_y (i := 17) (v := ?_) rfl (by kernel_rfl) (by kernel_rfl) (by kernel_rfl) (fun _ _ _ h => h) (by rfl) (by assumption) ?_ ?_
              rotate_left
              · intro w hSw
                try dsimp only at hSw
                go_simp
                try with_reducible rfl
              try simp only [Act.put, List.setIfInBounds_toArray, List.set_cons_zero, List.set_cons_succ]
              refine kit6.take_y (i := 18) (v := ?_) rfl (by kernel_rfl) (by kernel_rfl) (by kernel_rfl) (fun _ _ _ h => h) (by rfl) (by assumption) ?_ ?_
              rotate_left
              · intro w hSw
                try dsimp only at hSw
                go_simp
                try with_reducible rfl
              try simp only [Act.put, List.setIfInBounds_toArray, List.set_cons_zero, List.set_cons_succ]
              refine kit6.take_y (i := 19) (v := ?_) rfl (by kernel_rfl) (by kernel_rfl) (by kernel_rfl) (fun _ _ _ h => h) (by rfl) (by assumption) ?_ ?_
              rotate_left
              · intro w hSw
                try dsimp only at hSw
                go_simp
                try with_reducible rfl
              try simp only [Act.put, List.setIfInBounds_toArray, List.set_cons_zero, List.set_cons_succ]
              refine kit6.take_y (i := 20) (v := ?_) rfl (by kernel_rfl) (by kernel_rfl) (by kernel_rfl) (fun _ _ _ h => h) (by rfl) (by assumption) ?_ ?_
              rotate_left
              · intro w hSw
                try dsimp only at hSw
                go_simp
                try with_reducible rfl
              try simp only [Act.put, List.setIfInBounds_toArray, List.set_cons_zero, List.set_cons_succ]
              refine wpAnyH_ready (rs := [21]) (by kernel_rfl) (by simp) ?_
              refine kit6.cons_l (i := 21) rfl (by rfl) (fun K hK => ?_) AllReadyH.nil
              go_simp
              refine hK.out _ _ (by first | assumption | exact hS6 _) (fun hHeld => ?_)
              clear hK K
              try simp only [Act.put, List.setIfInBounds_toArray, List.set_cons_zero, List.set_cons_succ]
              refine kit6.take_y (i := 22) (v := ?_) rfl (by kernel_rfl) (by kernel_rfl) (by kernel_rfl) (fun _ _ _ h => h) (by rfl) (by assumption) ?_ ?_
              rotate_left
              · intro w hSw
                try dsimp only at hSw
                go_simp
                try with_reducible rfl
              try simp only [Act.put, List.setIfInBounds_toArray, List.set_cons_zero, List.set_cons_succ]
              refine wpAnyH_ready (rs := [23]) (by kernel_rfl) (by simp) ?_
              refine kit6.cons_l (i := 23) rfl (by rfl) (fun K hK => ?_) AllReadyH.nil
              go_simp
              go_at_call 33; refine (HPUT.out w5 O5 HP5b.out HF5b.out).mono ?_; rintro e7 w7 ⟨rfl, O7, P7, f7⟩; obtain ⟨F7, hS7⟩ := PUTARM.out w5 O5 HF5b.out w7 O7 _ P7 f7 rfl rfl rfl; have HP7 := Lib.hid P7; have HF7 := Lib.hid F7; clear P7 F7 f7
              dsimp only
              refine hK.out _ _ (by first | assumption | exact hS6 _) (fun hHeld => ?_)
              clear hK K
              try simp only [Act.put, List.setIfInBounds_toArray, List.set_cons_zero, List.set_cons_succ]
              refine kit6.take_y (i := 24) (v := ?_) rfl (by kernel_rfl) (by kernel_rfl) (by kernel_rfl) (fun _ _ _ h => h) (by rfl) (by assumption) ?_ ?_
              rotate_left
              · intro w hSw
                try dsimp only at hSw
                go_simp
                try with_reducible rfl
              try simp only [Act.put, List.setIfInBounds_toArray, List.set_cons_zero, List.set_cons_succ]
              refine kit6.take_y (i := 25) (v := ?_) rfl (by kernel_rfl) (by kernel_rfl) (by kernel_rfl) (fun _ _ _ h => h) (by rfl) (by assumption) ?_ ?_
              rotate_left
              · intro w hSw
                try dsimp only at hSw
                go_simp
                try with_reducible rfl
              try simp only [Act.put, List.setIfInBounds_toArray, List.set_cons_zero, List.set_cons_succ]
              refine wpAnyH_done (by kernel_rfl) ?_ _
              obtain ⟨M7, hM7⟩ : ∃ M7 : PM, M7 = { M2 with A := accS M2.A ⟨e.s, M2.o1, M2.o2, e.l⟩, ob := some (ob, logPut L e.s (⟨e.a, e.c, e.l⟩, ⟨some ⟨w5.heap.size, 0, none⟩, 1, [M2.node]⟩)) } := ⟨_, rfl⟩
              have P7 := HP7.out
              rw [← hM7] at P7
              have htd7 : M7.td = ⟨some ⟨b, off, none⟩, tc, e :: l⟩ := by rw [hM7]; exact HTD.out
              have T7 := P7.parts.tdo (fun x => x)
              rw [htd7] at T7
              obtain ⟨b7, off7, hbo, -, -, -, -, -, T8⟩ := todo_head T7
              simp only [Option.some.injEq, Addr.mk.injEq, and_true] at hbo
              obtain ⟨rfl, rfl⟩ := hbo
              have z38 : w7.cell? ⟨pb, 38, none⟩ = some (.slice (some ⟨b, off, none⟩) nl tc) := by
                have := (kit.blk P7.blk).1 38
                rw [HNL.out]
                have e4 : (pcells M7)[38]? = some M7.td.val := rfl
                rw [this, e4, htd7]; rfl
              have f38 : w7.frozen? ⟨pb, 38, none⟩ = false := (kit.blk P7.blk).2.1 38
              have hpz := (kit.blk P7.blk).2.2
              have HM7 := Lib.hid hM7
              have HP8 := Lib.hid P7
              have HT8 := Lib.hid T8
              clear P7 htd7 T7 T8 hM7 HP7 HP5b HF5b hS5 hS6 hS7 hHeld
              go_upto_region 7 with fail
              obtain ⟨ta, hta⟩ : ∃ ta : Option Addr, ta = (if tc = 1 then some ⟨b, off, none⟩ else some ⟨b, off + 2, none⟩) := ⟨_, rfl⟩
              rw [← hta]
              have T9 := HT8.out
              rw [← hta] at T9
              have HT9 := Lib.hid T9
              clear T9 hta HT8
              obtain ⟨w8, hw8⟩ : ∃ w8 : World, w8 = w7.setCell ⟨pb, 38, none⟩ (.slice ta (nl - 1) (tc - 1)) := ⟨_, rfl⟩
              rw [← hw8]
              obtain ⟨O8, P9, F9⟩ := peer_td HP8.out (s := ⟨ta, tc - 1, l⟩) HT9.out
              have hv : (Sl.val (⟨ta, tc - 1, l⟩ : Sl Et)) = .slice ta (nl - 1) (tc - 1) := by rw [HNL.out]; rfl
              rw [hv, ← hw8] at P9 F9
              obtain ⟨M8, hM8⟩ : ∃ M8 : PM, M8 = { M7 with td := ⟨ta, tc - 1, l⟩ } := ⟨_, rfl⟩
              rw [← hM8] at P9
              have F8 : Fr (N9 i) w4 O4 w8 O8 := HF7.out.trans (F9.mono sf_n9)
              have hnv8 := F8.hp HNV.out (by rw [HTV.out]; exact n9_nine)
              have hvz := (kit.blk HNV.out).2.2
              have htv8 : O8 vb = (i, 9) := by rw [F8.own vb hvz]; exact HTV.out
              have hne8 := F8.hp HNE.out (by rw [HTE.out]; exact n9_ro HP5.out.me)
              have hez := (kit.blk HNE.out).2.2
              have hte8 : O8 eb = ro := by rw [F8.own eb hez]; exact HTE.out
              have R8 := HR4.out.fr F8
              have HCL := Lib.hid (clone_any e.l e.a e.c w8 R8.len R8.nil R8.lie)
              have y3 : w8.cell? ⟨vb, 3, none⟩ = some (.slice e.a e.l.length e.c) := (blk4 hnv8).2.2.2.1
              have HP9 := Lib.hid P9
              have HF8 := Lib.hid F8
              have HNV8 := Lib.hid hnv8
              have HTV8 := Lib.hid htv8
              have HNE8 := Lib.hid hne8
              have HTE8 := Lib.hid hte8
              have HM8 := Lib.hid hM8
              have HR8 := Lib.hid R8
              clear hw8 P9 F9 hv hM8 F8 hnv8 htv8 hne8 hte8 R8 hvz hez z38 f38 hpz HP8 HT9 HF7
              go_upto_region 8 with (go_at_call 14; refine HCL.out.mono ?_; rintro e9 w9 ⟨v9, rfl, ho9, hb9⟩; obtain ⟨a9, c9, rfl⟩ := own_shape ho9; have HO9 := Lib.hid ho9; have HB9 := Lib.hid hb9; have hnv9 := hp_step HNV8.out hb9; have g3 : w9.cell? ⟨vb, 3, none⟩ = some (.slice e.a e.l.length e.c) := (blk4 hnv9).2.2.2.1; have gf3 : w9.frozen? ⟨vb, 3, none⟩ = false := (kit.blk hnv9).2.1 3; have gz := (kit.blk hnv9).2.2; have HNV9 := Lib.hid hnv9; clear ho9 hb9 hnv9)
              obtain ⟨w10, hw10⟩ : ∃ w10 : World, w10 = w9.setCell ⟨vb, 3, none⟩ (.slice a9 e.l.length c9) := ⟨_, rfl⟩
              rw [← hw10]
              have P9 := PeerAt.below HP9.out HB9.out
              have F10 : Fr (fun t => t = (i, 9)) w9 O8 w10 O8 := by
                rw [hw10]
                exact (Fr.refl _ P9.clean).set (p := ⟨vb, 3, none⟩) (.inr HTV8.out) HNV9.out (by rintro (e | e) <;> exact absurd e (by decide)) _
              have P10 := PeerAt.scratch P9 F10
              have F8b := Fr.of_below (S := fun t => t = (i, 9)) HP9.out.clean HB9.out
              have F810 := F8b.trans F10
              have hnv10 : w10.heap[vb]? = some (.cells #[.int .i64 e.s, .int .i64 M2.o1, .int .i64 M2.o2, .slice a9 e.l.length c9] 45 (0, 0)) := by rw [hw10]; exact hp_set HNV9.out 3 _
              have hne10 := F810.hp HNE8.out (by rw [HTE8.out]; intro e; exact HP9.out.me (congrArg Prod.fst e).symm)
              have R10 : RoB w10 ⟨a9, c9, e.l⟩ := (rob_own HO9.out rfl HR8.out.len HR8.out.byt).fr F10
              have HNO := Lib.hid (note_ok w10 O8 i pb M8 ⟨2, 0, 0, ⟨e.s, M2.o1, M2.o2, e.l, a9, c9⟩, ⟨0, [], none, 0⟩⟩ P10 ⟨R10, rob_nil w10⟩ (by
                have h1 := HG2.out.nt
                have h2 : M8.nt.l.length = M2.dat.notes.length := by rw [HM8.out, HM7.out]; exact (List.length_map _).symm
                omega))
              simp only [nval] at HNO
              obtain ⟨v0, v1, v2, v3, -⟩ := blk4 hnv10
              have HP10 := Lib.hid P10
              have HF10 := Lib.hid F810
              have HNE10 := Lib.hid hne10
              have HW10 := Lib.hid hw10
              clear hw10 P9 F10 P10 F8b F810 hnv10 hne10 R10 y3 g3 gf3 gz HCL
              go_upto_region 9 with (go_at_call 22; refine HNO.out.mono ?_; rintro e11 w11 ⟨rfl, c11, a11, O11, P11, F11⟩; have HP11 := Lib.hid P11; have HF11 := Lib.hid F11; clear P11 F11)
              obtain ⟨M11, hM11⟩ : ∃ M11 : PM, M11 = { M8 with nt := ⟨a11, c11, M8.nt.l ++ [⟨2, 0, 0, ⟨e.s, M2.o1, M2.o2, e.l, a9, c9⟩, ⟨0, [], none, 0⟩⟩]⟩ } := ⟨_, rfl⟩
              have P11 := HP11.out
              rw [← hM11] at P11
              have hd11 : M11.dat = (({ M2.dat with A := accS M2.dat.A ⟨e.s, M2.dat.own.1, M2.dat.own.2, e.l⟩, opn := some (L.dat.put e.s (e.l, [M2.dat.node])), todo := l.map le } : PD).note (.vote ⟨e.s, M2.dat.own.1, M2.dat.own.2, e.l⟩)) := by
                rw [hM11, HM8.out, HM7.out]
                unfold PD.note PM.dat
                simp only [List.map_append, List.map_singleton, Option.map_some, logPut_dat]
                rfl
              have hne11 := HF11.out.hp HNE10.out (by
                have e1 : O8 eb = ro := HTE8.out
                rw [e1]; exact sf_ro HP5.out.me)
              have F11 : Fr (Mine i) w O w11 O11 := HF24.out.trans ((HF8.out.mono n9_mine).trans ((HF10.out.mono nine_mine).trans (HF11.out.mono sf_mine)))
              have R11 : RoB w11 ⟨e.a, e.c, e.l⟩ := (HR8.out.fr HF10.out).fr HF11.out
              obtain ⟨n5, hn5, hn5l⟩ : ∃ n5 : Nat, M2.nodes = (n5 : Int) ∧ n5 ≤ 5 := by
                have h1 := HG2.out.nod
                have h1 : 0 ≤ M2.nodes ∧ M2.nodes ≤ 5 := h1
                exact ⟨M2.nodes.toNat, by omega, by omega⟩
              have hI0 : Hid (Inner w O i pb eb e M11 w11 M11 0) := ⟨O11, P11, F11, rfl, by exact hne11, R11, by rw [HF11.out.own eb (kit.blk HNE10.out).2.2]; exact HTE8.out⟩
              have HD11 := Lib.hid hd11
              have HN5 := Lib.hid hn5
              have HB11 : Hid (M11.lt.l.length ≤ 900000000 ∧ (0 ≤ M11.index ∧ M11.index ≤ 4398046511104) ∧ M11.en.l.length ≤ 1000000000 ∧ M11.nodes = (n5 : Int) ∧ M11.node = M2.node) := by
                have e1 : M11.lt = M2.lt ∧ M11.index = M2.index ∧ M11.en = M2.en ∧ M11.nodes = M2.nodes ∧ M11.node = M2.node := by rw [hM11, HM8.out, HM7.out]; exact ⟨rfl, rfl, rfl, rfl, rfl⟩
                have h1 := HG2.out.lt
                have h2 : M2.dat.letters.length = M2.lt.l.length := List.length_map _
                refine ⟨by rw [e1.1]; omega, by rw [e1.2.1]; exact HCI.out, by rw [e1.2.2.1]; exact HCE.out, e1.2.2.2.1.trans hn5, e1.2.2.2.2⟩
              clear hM11 P11 hd11 hne11 F11 R11 hn5 HP11 HF11 HP10 HF10 HNE10 HW10 HNO HP9 HF8 HNV8 HTV8 HNE8 HTE8 HR8 HO9 HB9 HNV9 v0 v1 v2 v3
              obtain ⟨wo, rfl⟩ : ∃ wo : World, wo = wr := ⟨_, rfl⟩
              go_wp2_with fail
              go_loopw [4] (fun t wx => ∃ (k : Nat) (M3 : PM), k ≤ n5 ∧ t = .int .i64 ((k : Int) + 1) ∧ Hid (Inner w O i pb eb e M11 wx M3 k)) (fun t _ => n5 + 1 - (RowKit.intOf t).toNat)
              case atStart => exact ⟨0, M11, Nat.zero_le _, rfl, hI0⟩
              case round =>
                obtain ⟨k, M3, hk, rfl, HI⟩ := hrel
                obtain ⟨O3, P3, F3, hd3, hne3, R3, hro3⟩ := HI.out
                obtain ⟨X, hXl, eX⟩ := offersK_eq M11.dat e.s e.l k
                have hdX := hd3.trans eX
                obtain ⟨hb1, hb2, hb3, hb4, hb5⟩ := HB11.out
                have e1 : M3.nodes = (n5 : Int) := (show M3.nodes = M11.nodes from congrArg PD.nodes hdX).trans hb4
                have e2 : M3.node = M2.node := (show M3.node = M11.node from congrArg PD.node hdX).trans hb5
                have e3 : M3.index = M11.index := congrArg PD.index hdX
                have e4 : M3.en.l.length = M11.en.l.length := by
                  have h1 := congrArg (fun P : PD => P.entries.length) hdX
                  have h2 : (M3.en.l.map le).length = (M11.en.l.map le).length := h1
                  rwa [List.length_map, List.length_map] at h2
                have e5 : M3.lt.l.length ≤ 1000000000 := by
                  have h1 := congrArg (fun P : PD => P.letters.length) hdX
                  have h2 : (M3.lt.l.map LtM.dat).length = ((M11.lt.l.map LtM.dat) ++ X).length := h1
                  rw [List.length_map, List.length_append, List.length_map] at h2
                  omega
                have x1 : wr.cell? ⟨pb, 1, none⟩ = some (.int .i64 M3.nodes) := (kit.blk P3.blk).1 1
                rw [e1] at x1
                have x0 : wr.cell? ⟨pb, 0, none⟩ = some (.int .i64 M3.node) := (kit.blk P3.blk).1 0
                rw [e2] at x0
                obtain ⟨q0, q1, -, -, qz⟩ := blk2 hne3
                by_cases hlt : k < n5
                · have hle : (k : Int) + 1 ≤ (n5 : Int) := by omega
                  have hw2 : IntKind.i64.wrap ((k : Int) + 1 + 1) = (k : Int) + 1 + 1 := IntWalk.i64_in _ (by omega)
                  by_cases hme : (k : Int) + 1 = M2.node
                  · have t1 : ((k : Int) + 1 != M2.node) = false := by simp [hme]
                    have HR2 : Hid (Inner w O i pb eb e M11 wr M3 (k + 1)) := ⟨O3, P3, F3, by rw [offersK_succ, ← hd3, if_pos (by show _ = M3.node; rw [e2]; exact hme)], hne3, R3, hro3⟩
                    clear P3 F3 hd3 hne3 R3 hro3 hdX eX e1 e2 e3 e4 e5 hb1 hb2 hb3 hb4 hb5 hme
                    go_wp2_with fail
                    go_roundw
                    case rel => exact ⟨k + 1, M3, by omega, by go_num, HR2⟩
                    case measure => simp [RowKit.intOf]; omega
                  · have t1 : ((k : Int) + 1 != M2.node) = true := by simpa using hme
                    have HOF := Lib.hid (peo.offer_ok wr O3 i pb M3 ((k : Int) + 1) e.s ⟨e.a, e.c, e.l⟩ P3 R3 (by rw [e3]; exact hb2) (by rw [e4]; exact hb3) e5)
                    have HRK : Hid (∀ w5 M5, M5.dat = M3.dat.offer ((k : Int) + 1) e.s e.l → Behind wr O3 i pb (Mine i) w5 M5 → Inner w O i pb eb e M11 w5 M5 (k + 1)) := by
                      rintro w5 M5 hd5 ⟨O5, P5, F5⟩
                      refine ⟨O5, P5, F3.trans F5, by rw [offersK_succ, ← hd3, if_neg (by show ¬ _ = M3.node; rw [e2]; exact hme)]; exact hd5, F5.hp hne3 ?_, R3.fr F5, by rw [F5.own eb (kit.blk hne3).2.2]; exact hro3⟩
                      rw [hro3]; exact fun hh => P3.me hh.1.symm
                    clear P3 F3 hd3 hne3 R3 hro3 hdX eX e1 e2 e3 e4 e5 hb1 hb2 hb3 hb4 hb5 hme
                    go_wp2_with (go_at_call 34; refine HOF.out.mono ?_; rintro ee w5 ⟨rfl, a5, c5, a1, a2, c1, c2, hB5⟩; have HR5 := Lib.hid (HRK.out w5 _ (offer_dat M3 ((k : Int) + 1) e.s e.l a5 a1 a2 c5 c1 c2) hB5); clear hB5)
                    go_roundw
                    case rel => exact ⟨k + 1, _, by omega, by go_num, HR5⟩
                    case measure => simp [RowKit.intOf]; omega
                · obtain rfl : k = n5 := by omega
                  have hle : ¬ (k : Int) + 1 ≤ (k : Int) := by omega
                  have hfin : Hid (LoopP w O i pb M wr M3 ∧ lenC wr ⟨pb, 38, none⟩ = l.length) := by
                    have hdP : M3.dat = M2.dat.prop2 L.dat e.s e.l (l.map le) := by
                      rw [hd3, HD11.out]
                      show _ = PD.offers _ e.s e.l
                      rw [offers_K]
                      have : (({ M2.dat with A := accS M2.dat.A ⟨e.s, M2.dat.own.1, M2.dat.own.2, e.l⟩, opn := some (L.dat.put e.s (e.l, [M2.dat.node])), todo := l.map le } : PD).note (.vote ⟨e.s, M2.dat.own.1, M2.dat.own.2, e.l⟩)).nodes.toNat = k := by
                        show M2.nodes.toNat = k
                        rw [HN5.out]; exact Int.toNat_natCast k
                      rw [this]
                    have htd3 : M3.td.l.length = l.length := by
                      have h1 := congrArg (fun P : PD => P.todo.length) (hdX.trans (by rw [HD11.out]))
                      have h2 : (M3.td.l.map le).length = (l.map le).length := h1
                      rwa [List.length_map, List.length_map] at h2
                    refine ⟨⟨⟨O3, P3, F3⟩, by rw [hdP]; exact HGP.out, by rw [hdP]; exact Nat.le_trans HWP.out HW2.out, ?_, ?_⟩, ?_⟩
                    · have : M3.dat.leads = M2.dat.leads := by rw [hdP]; exact HLP.out
                      exact (show M3.leads = M2.leads from this).trans HL2.out
                    · rw [hdP, ← PRS.out]
                      have : (M2.dat.prop2 L.dat e.s e.l (l.map le)).todo.length = (l.map le).length := by
                        rw [← hdP]; show (M3.td.l.map le).length = _; rw [List.length_map, List.length_map]; exact htd3
                      rw [this]
                    · unfold lenC
                      have e7 : (pcells M3)[38]? = some M3.td.val := rfl
                      rw [(kit.blk P3.blk).1 38, e7]
                      exact htd3
                  clear P3 F3 hd3 hne3 R3 hro3 hdX eX e1 e2 e3 e4 e5 hb1 hb2 hb3 hb4 hb5
                  go_wp2_with fail
                  refine ⟨⟨M3, hfin.out.1⟩, ?_⟩
                  rw [hfin.out.2, HLC.out, HTD.out]
                  simp
          · have hne : (E != 0) = true := by simpa using h0
            have H0 := Lib.hid h0
            clear h0
            as_aux_lemma =>
              go_upto_region 5 with fail
              refine wp_region_held_drew (S := (fun w' => w'.cell? ⟨pb, 2, none⟩ = some (.pointer (some ⟨M2.ab, 0, none⟩)) ∧ w'.cell? ⟨pb, 0, none⟩ = some (.int .i64 M2.node) ∧ w'.cell? ⟨pb, 37, none⟩ = some (.pointer (some ⟨ob, 0, none⟩)) ∧ w'.cell? ⟨eb, 0, none⟩ = some (.int .i64 e.s) ∧ w'.cell? ⟨eb, 1, none⟩ = some (.slice e.a e.l.length e.c) ∧ w'.cell? ⟨vb, 0, none⟩ = some (.int .i64 e.s) ∧ w'.cell? ⟨vb, 1, none⟩ = some (.int .i64 M2.o1) ∧ w'.cell? ⟨vb, 2, none⟩ = some (.int .i64 M2.o2) ∧ w'.cell? ⟨vb, 3, none⟩ = some (.slice e.a e.l.length e.c))) (by kernel_rfl) ⟨x2, x0, x37, q0, q1, v0, v1, v2, v3⟩ (fun hHeld => ?_)
              refine kit6.take_y (i := 0) (v := ?_) rfl (by kernel_rfl) (by kernel_rfl) (by kernel_rfl) (fun _ _ _ h => h) (by rfl) (by assumption) ?_ ?_
              rotate_left
              · intro w hSw
                try dsimp only at hSw
                go_simp
                try with_reducible rfl
              try simp only [Act.put, List.setIfInBounds_toArray, List.set_cons_zero, List.set_cons_succ]
              refine kit6.take_y (i := 1) (v := ?_) rfl (by kernel_rfl) (by kernel_rfl) (by kernel_rfl) (fun _ _ _ h => h) (by rfl) (by assumption) ?_ ?_
              rotate_left
              · intro w hSw
                try dsimp only at hSw
                go_simp
                try with_reducible rfl
              try simp only [Act.put, List.setIfInBounds_toArray, List.set_cons_zero, List.set_cons_succ]
              refine kit6.take_y (i := 2) (v := ?_) rfl (by kernel_rfl) (by kernel_rfl) (by kernel_rfl) (fun _ _ _ h => h) (by rfl) (by assumption) ?_ ?_
              rotate_left
              · intro w hSw
                try dsimp only at hSw
                go_simp
                try with_reducible rfl
              try simp only [Act.put, List.setIfInBounds_toArray, List.set_cons_zero, List.set_cons_succ]
              refine kit6.take_y (i := 3) (v := ?_) rfl (by kernel_rfl) (by kernel_rfl) (by kernel_rfl) (fun _ _ _ h => h) (by rfl) (by assumption) ?_ ?_
              rotate_left
              · intro w hSw
                try dsimp only at hSw
                go_simp
                try with_reducible rfl
              try simp only [Act.put, List.setIfInBounds_toArray, List.set_cons_zero, List.set_cons_succ]
              refine kit6.take_y (i := 4) (v := ?_) rfl (by kernel_rfl) (by kernel_rfl) (by kernel_rfl) (fun _ _ _ h => h) (by rfl) (by assumption) ?_ ?_
              rotate_left
              · intro w hSw
                try dsimp only at hSw
                go_simp
                try with_reducible rfl
              try simp only [Act.put, List.setIfInBounds_toArray, List.set_cons_zero, List.set_cons_succ]
              refine kit6.take_y (i := 5) (v := ?_) rfl (by kernel_rfl) (by kernel_rfl) (by kernel_rfl) (fun _ _ _ h => h) (by rfl) (by assumption) ?_ ?_
              rotate_left
              · intro w hSw
                try dsimp only at hSw
                go_simp
                try with_reducible rfl
              try simp only [Act.put, List.setIfInBounds_toArray, List.set_cons_zero, List.set_cons_succ]
              refine kit6.take_c (i := 6) rfl (by kernel_rfl) (by rfl) (fun K hK => ?_)
              go_simp
              go_at_call 32; refine HACC.out.mono ?_; rintro e5 w5 ⟨rfl, hA5, hk5⟩; obtain ⟨O5, P5, F5, hS5⟩ := ACCARM.out w5 hA5 hk5; have HP5b := Lib.hid P5; have HF5b := Lib.hid F5; clear hA5 hk5 P5 F5
              dsimp only
              refine hK.out _ _ (by assumption) (fun hHeld => ?_)
              clear hK K
              try simp only [Act.put, List.setIfInBounds_toArray, List.set_cons_zero, List.set_cons_succ]
              refine kit6.take_y (i := 7) (v := ?_) rfl (by kernel_rfl) (by kernel_rfl) (by kernel_rfl) (fun _ _ _ h => h) (by rfl) (by assumption) ?_ ?_
              rotate_left
              · intro w hSw
                try dsimp only at hSw
                go_simp
                try with_reducible rfl
              try simp only [Act.put, List.setIfInBounds_toArray, List.set_cons_zero, List.set_cons_succ]
              refine kit6.take_y (i := 8) (v := ?_) rfl (by kernel_rfl) (by kernel_rfl) (by kernel_rfl) (fun _ _ _ h => h) (by rfl) (by assumption) ?_ ?_
              rotate_left
              · intro w hSw
                try dsimp only at hSw
                go_simp
                try with_reducible rfl
              try simp only [Act.put, List.setIfInBounds_toArray, List.set_cons_zero, List.set_cons_succ]
              refine kit6.take_n (i := 9) rfl (by kernel_rfl) (by kernel_rfl) (by kernel_rfl) (fun _ _ _ h => h) (by rfl) (by assumption) ?_
              try simp only [Act.put, List.setIfInBounds_toArray, List.set_cons_zero, List.set_cons_succ]
              refine kit6.take_n (i := 10) rfl (by kernel_rfl) (by kernel_rfl) (by kernel_rfl) (fun _ _ _ h => h) (by rfl) (by assumption) ?_
              try simp only [Act.put, List.setIfInBounds_toArray, List.set_cons_zero, List.set_cons_succ]
              refine kit6.take_n (i := 11) rfl (by kernel_rfl) (by kernel_rfl) (by kernel_rfl) (fun _ _ _ h => h) (by rfl) (by assumption) ?_
              try simp only [Act.put, List.setIfInBounds_toArray, List.set_cons_zero, List.set_cons_succ]
              refine kit6.take_n (i := 12) rfl (by kernel_rfl) (by kernel_rfl) (by kernel_rfl) (fun _ _ _ h => h) (by rfl) (by assumption) ?_
              try simp only [Act.put, List.setIfInBounds_toArray, List.set_cons_zero, List.set_cons_succ]
              refine kit6.take_n (i := 13) rfl (by kernel_rfl) (by kernel_rfl) (by kernel_rfl) (fun _ _ _ h => h) (by rfl) (by assumption) ?_
              try simp only [Act.put, List.setIfInBounds_toArray, List.set_cons_zero, List.set_cons_succ]
              refine kit6.take_n (i := 14) rfl (by kernel_rfl) (by kernel_rfl) (by kernel_rfl) (fun _ _ _ h => h) (by rfl) (by assumption) ?_
              try simp only [Act.put, List.setIfInBounds_toArray, List.set_cons_zero, List.set_cons_succ]
              refine kit6.take_n (i := 15) rfl (by kernel_rfl) (by kernel_rfl) (by kernel_rfl) (fun _ _ _ h => h) (by rfl) (by assumption) ?_
              try simp only [Act.put, List.setIfInBounds_toArray, List.set_cons_zero, List.set_cons_succ]
              refine kit6.take_n (i := 16) rfl (by kernel_rfl) (by kernel_rfl) (by kernel_rfl) (fun _ _ _ h => h) (by rfl) (by assumption) ?_
              try simp only [Act.put, List.setIfInBounds_toArray, List.set_cons_zero, List.set_cons_succ]
              refine kit6.take_n (i := 17) rfl (by kernel_rfl) (by kernel_rfl) (by kernel_rfl) (fun _ _ _ h => h) (by rfl) (by assumption) ?_
              try simp only [Act.put, List.setIfInBounds_toArray, List.set_cons_zero, List.set_cons_succ]
              refine kit6.take_n (i := 18) rfl (by kernel_rfl) (by kernel_rfl) (by kernel_rfl) (fun _ _ _ h => h) (by rfl) (by assumption) ?_
              try simp only [Act.put, List.setIfInBounds_toArray, List.set_cons_zero, List.set_cons_succ]
              refine kit6.take_n (i := 19) rfl (by kernel_rfl) (by kernel_rfl) (by kernel_rfl) (fun _ _ _ h => h) (by rfl) (by assumption) ?_
              try simp only [Act.put, List.setIfInBounds_toArray, List.set_cons_zero, List.set_cons_succ]
              refine kit6.take_n (i := 20) rfl (by kernel_rfl) (by kernel_rfl) (by kernel_rfl) (fun _ _ _ h => h) (by rfl) (by assumption) ?_
              try simp only [Act.put, List.setIfInBounds_toArray, List.set_cons_zero, List.set_cons_succ]
              refine kit6.take_n (i := 21) rfl (by kernel_rfl) (by kernel_rfl) (by kernel_rfl) (fun _ _ _ h => h) (by rfl) (by assumption) ?_
              try simp only [Act.put, List.setIfInBounds_toArray, List.set_cons_zero, List.set_cons_succ]
              refine kit6.take_n (i := 22) rfl (by kernel_rfl) (by kernel_rfl) (by kernel_rfl) (fun _ _ _ h => h) (by rfl) (by assumption) ?_
              try simp only [Act.put, List.setIfInBounds_toArray, List.set_cons_zero, List.set_cons_succ]
              refine kit6.take_n (i := 23) rfl (by kernel_rfl) (by kernel_rfl) (by kernel_rfl) (fun _ _ _ h => h) (by rfl) (by assumption) ?_
              try simp only [Act.put, List.setIfInBounds_toArray, List.set_cons_zero, List.set_cons_succ]
              refine kit6.take_n (i := 24) rfl (by kernel_rfl) (by kernel_rfl) (by kernel_rfl) (fun _ _ _ h => h) (by rfl) (by assumption) ?_
              try simp only [Act.put, List.setIfInBounds_toArray, List.set_cons_zero, List.set_cons_succ]
              refine kit6.take_y (i := 25) (v := ?_) rfl (by kernel_rfl) (by kernel_rfl) (by kernel_rfl) (fun _ _ _ h => h) (by rfl) (by assumption) ?_ ?_
              rotate_left
              · intro w hSw
                try dsimp only at hSw
                go_simp
                try with_reducible rfl
              try simp only [Act.put, List.setIfInBounds_toArray, List.set_cons_zero, List.set_cons_succ]
              refine wpAnyH_done (by kernel_rfl) ?_ _
              have hA0 : accS M2.A ⟨e.s, M2.o1, M2.o2, e.l⟩ = M2.A := by unfold accS; exact if_neg (by rw [← HE.out]; exact H0.out)
              have P6 := HP5b.out
              rw [hA0] at P6
              have HA := Lib.hid (HADV.out w5 O5 i pb M2 P6 HG2.out (by have := HW2.out; have := HW.out; omega))
              clear hA0 P6
              go_wp2_with (go_at_call 35; refine HA.out.mono ?_; rintro e w9 ⟨rfl, M9, hd9, hB9⟩; have HD9 := Lib.hid hd9; have HB9 := Lib.hid hB9; clear hd9 hB9)
              have htt : M2.dat.todo = (e.s, e.l) :: l.map le := by show M2.td.l.map le = _; rw [HTD.out]; rfl
              refine bodyPost_end (v := .tuple #[]) (by simp [results, Tryz.results16, go_sem]) rfl ⟨rfl, M9, ?_, ?_⟩
              · rw [HD9.out, pro_eq, ← HPP.out, props_stop (prop1_stop htt (by show ¬ e.s ≤ M2.index + ((M2.en.l.map le).length : Int); rw [List.length_map]; have := HS.out; omega) (show accE M2.A.r M2.A.n M2.A.first ⟨e.s, M2.o1, M2.o2, e.l⟩ ≠ 0 from by rw [← show E = _ from HE.out]; exact H0.out))]
              · obtain ⟨O9, P9, F9⟩ := HB9.out
                exact ⟨O9, P9, HF24.out.trans ((HF5b.out.mono n9_mine).trans F9)⟩
end Go.Proofs.YtcaakiaenfkeaaaGreat.pepr
