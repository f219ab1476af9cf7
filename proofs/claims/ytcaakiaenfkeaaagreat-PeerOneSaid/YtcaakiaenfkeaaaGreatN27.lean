/-
  A group of one, call by call: what the law's loop keeps, and what each call of it leaves.
-/
import Derived.Test.YtcaakiaenfkeaaaGreatN26
namespace Go.Proofs.YtcaakiaenfkeaaaGreat.peos
open Go.ChangeShapes Go.WideShapes Go.ChangeAt Go.RowKit
open Go.Proofs.YtcaakiaenfkeaaaGreat.kit Go.Proofs.YtcaakiaenfkeaaaGreat.mapkit Go.Proofs.YtcaakiaenfkeaaaGreat.byt Go.Proofs.YtcaakiaenfkeaaaGreat.own Go.Proofs.YtcaakiaenfkeaaaGreat.accd Go.Proofs.YtcaakiaenfkeaaaGreat.accb Go.Proofs.YtcaakiaenfkeaaaGreat.acce Go.Proofs.YtcaakiaenfkeaaaGreat.chd Go.Proofs.YtcaakiaenfkeaaaGreat.che Go.Proofs.YtcaakiaenfkeaaaGreat.ownr Go.Proofs.YtcaakiaenfkeaaaGreat.pep Go.Proofs.YtcaakiaenfkeaaaGreat.peb Go.Proofs.YtcaakiaenfkeaaaGreat.pem Go.Proofs.YtcaakiaenfkeaaaGreat.pen Go.Proofs.YtcaakiaenfkeaaaGreat.pes Go.Proofs.YtcaakiaenfkeaaaGreat.peq Go.Proofs.YtcaakiaenfkeaaaGreat.pedr Go.Proofs.YtcaakiaenfkeaaaGreat.pelo Go.Proofs.YtcaakiaenfkeaaaGreat.penw Go.Proofs.YtcaakiaenfkeaaaGreat.pese Go.Proofs.YtcaakiaenfkeaaaGreat.pesv Go.Proofs.YtcaakiaenfkeaaaGreat.perd Go.Proofs.YtcaakiaenfkeaaaGreat.peaw Go.Proofs.YtcaakiaenfkeaaaGreat.peod
set_option linter.unusedVariables false
set_option linter.unusedSimpArgs false
set_option maxHeartbeats 4000000
set_option maxRecDepth 100000

/-- Between two rounds: n values are chosen, no ballot is above B; whether the member leads. -/
def InvB (W wr : World) (pb sb n : Nat) (B : Int) (l : Bool) : Prop := ∃ (O : Owners) (i j : Nat) (M : PM) (S : SvM) (N : Sl NtM) (C : Sl Et), M.leads = l ∧ Mid W wr O i pb j sb M S N C ∧ Dt M.dat n B ∧ SvOk S n B
def Inv (W wr : World) (pb sb n : Nat) (B : Int) : Prop := ∃ l, InvB W wr pb sb n B l
theorem Inv.mono {W wr : World} {pb sb n : Nat} {B B' : Int} (h : Inv W wr pb sb n B) (hk : B ≤ B') : Inv W wr pb sb n B' := by
  obtain ⟨l, O, i, j, M, S, N, C, h0, h1, h2, h3⟩ := h
  exact ⟨l, O, i, j, M, S, N, C, h0, h1, h2.mono hk, h3.mono hk⟩
theorem InvB.mono {W wr : World} {pb sb n : Nat} {B B' : Int} {l : Bool} (h : InvB W wr pb sb n B l) (hk : B ≤ B') : InvB W wr pb sb n B' l := by
  obtain ⟨O, i, j, M, S, N, C, h0, h1, h2, h3⟩ := h
  exact ⟨O, i, j, M, S, N, C, h0, h1, h2.mono hk, h3.mono hk⟩
theorem InvB.from {W wr : World} {pb sb n : Nat} {B : Int} {l : Bool} (h : InvB W wr pb sb n B l) : Below W.heap.size W wr := by
  obtain ⟨O, i, j, M, S, N, C, h0, h1, h2, h3⟩ := h
  exact h1.below
theorem InvB.fr {W w w' : World} {pb sb n : Nat} {B : Int} {l : Bool} (h : InvB W w pb sb n B l) (hb : Below w.heap.size w w') : InvB W w' pb sb n B l := by
  obtain ⟨O, i, j, M, S, N, C, h0, h1, h2, h3⟩ := h
  exact ⟨O, i, j, M, S, N, C, h0, Mid.fr (O' := O) h1 hb, h2, h3⟩
theorem Inv.from {W wr : World} {pb sb n : Nat} {B : Int} (h : Inv W wr pb sb n B) : Below W.heap.size W wr := by
  obtain ⟨l, h⟩ := h
  exact h.from
theorem start_inv {W w2 : World} {O1 : Owners} {pb : Nat} {M : PM} (hP : PeerAt w2 O1 1 pb M) (hF : Fr (fun _ => False) W (fun _ => ro) w2 O1) (hM : M.dat = newD 1 1 S0) : Inv W (w2.alloc (.cells S0.cells 33)) pb w2.heap.size 0 0 := by
  obtain ⟨w3, hw3⟩ : ∃ w3, w3 = w2.alloc (.cells S0.cells 33) := ⟨_, rfl⟩
  rw [← hw3]
  have hb : Below w2.heap.size w2 w3 := by rw [hw3]; exact below_new1 _ _
  have hn : w3.heap[w2.heap.size]? = some (.cells S0.cells 33 (0, 0)) := by rw [hw3]; exact hp_alloc_new _ _
  have F : Fr (fun _ => False) w2 O1 w3 (O1.put w2.heap.size (2, 1)) := (Fr.of_below hP.clean hb).claim (2, 1) (Nat.le_refl _) (kit.blk hn).2.2
  have hP3 := hP.fr (fun _ x => x) (fun x => x) F
  refine ⟨_, O1.put w2.heap.size (2, 1), 1, 2, M, S0, M.nt, M.ch, rfl, ⟨hP3, ⟨F.clean, by decide, hn, put_self _ _ _, row_nil _ _ _ _ _, by simp [S0, sl0], row_nil _ _ _ _ _, by simp [S0, sl0], rob_nil _⟩, by decide, ?_, fun k hk => ?_, hP3.parts.nts (fun x => x), hP3.parts.chs (fun x => x)⟩, ?_, svOk0⟩
  · exact (hF.below (Nat.le_refl _) (fun _ _ x => x)).trans (Below.mono hb hF.size)
  · exact ((F.own k (Nat.lt_of_lt_of_le hk hF.size)).trans (hF.own k hk))
  · have h := dt_new svOk0
    rw [hM]
    exact h
/-- A struct that Ready has told, in a block of the law's own. -/
def BoxR (w : World) (rb : Nat) (N : Sl NtM) (la : Option Addr) (lc : Nat) (C : Sl Et) (ri : Int) (xa : Option Addr) (xl xc : Nat) : Prop :=
  w.heap[rb]? = some (.cells #[.slice N.a N.l.length N.c, .slice la 0 lc, .slice C.a C.l.length C.c, .int .i64 ri, .slice xa xl xc] 40 (0, 0))
theorem BoxR.cells {w : World} {rb : Nat} {N : Sl NtM} {la : Option Addr} {lc : Nat} {C : Sl Et} {ri : Int} {xa : Option Addr} {xl xc : Nat} (h : BoxR w rb N la lc C ri xa xl xc) :
    w.cell? ⟨rb, 0, none⟩ = some (.slice N.a N.l.length N.c) ∧ w.cell? ⟨rb, 1, none⟩ = some (.slice la 0 lc) ∧ w.cell? ⟨rb, 2, none⟩ = some (.slice C.a C.l.length C.c) ∧ rb < w.heap.size :=
  ⟨(kit.blk h).1 0, (kit.blk h).1 1, (kit.blk h).1 2, (kit.blk h).2.2⟩
theorem BoxR.fr {w w' : World} {rb : Nat} {N : Sl NtM} {la : Option Addr} {lc : Nat} {C : Sl Et} {ri : Int} {xa : Option Addr} {xl xc : Nat} (h : BoxR w rb N la lc C ri xa xl xc) (hb : Below w.heap.size w w') : BoxR w' rb N la lc C ri xa xl xc := hp_step h hb

section
variable {W w : World} {pb sb n : Nat} {B : Int}
/-- Leads. -/
theorem leads_inv {l : Bool} (h : InvB W w pb sb n B l) :
    Calls Tryz.prog 6 #[.pointer (some ⟨pb, 0, none⟩)] w fun e w' => e = .returned (.bool l) ∧ w' = w := by
  obtain ⟨O, i, j, M, S, N, C, h0, h1, h2, h3⟩ := h
  rw [← h0]
  exact leads_ok w O i pb M h1.peer
/-- Propose of a member that does not lead. -/
theorem send_no {b : Sl Nat} (h : InvB W w pb sb n B false) (hn : n ≤ 1000) (hb : RdB w b) (h1 : 1 ≤ b.l.length) (h2 : b.l.length ≤ 2048) :
    Calls Tryz.prog 7 #[.pointer (some ⟨pb, 0, none⟩), .slice b.a b.l.length b.c] w fun e w' => e = .returned (.int .i64 130) ∧ InvB W w' pb sb n B false := by
  obtain ⟨O, i, j, M, S, N, C, hl, hm, hd, hs⟩ := h
  have hc := send_go hm hd hn hb h1 h2
  rw [hl] at hc
  refine hc.mono ?_
  rintro e w' ⟨rfl, M', O', hM', hm'⟩
  have hM' : M'.dat = M.dat := hM'
  refine ⟨rfl, O', i, j, M', S, M'.nt, M'.ch, ?_, hm', by rw [hM']; exact hd, hs⟩
  have : M'.leads = M.leads := congrArg PD.leads hM'
  exact this.trans hl
/-- A member that has drawn. -/
def InvDr (W w : World) (pb sb n : Nat) (B : Int) : Prop := ∃ (P : PD) (O : Owners) (i j : Nat) (M : PM) (S : SvM) (N : Sl NtM) (C : Sl Et), M.dat = P.drawn ∧ Mid W w O i pb j sb M S N C ∧ Dt P n B ∧ SvOk S n B
theorem draw_inv (h : InvB W w pb sb n B false) (hn : n ≤ 1000) (hB : 0 ≤ B ∧ B ≤ 1000) :
    Calls Tryz.prog 8 #[.pointer (some ⟨pb, 0, none⟩)] w fun e w' => e = .returned (.int .i64 0) ∧ InvDr W w' pb sb n B := by
  obtain ⟨O, i, j, M, S, N, C, hl, hm, hd, hs⟩ := h
  refine (draw_go hm hd hn hB).mono ?_
  rintro e w' ⟨rfl, M', O', hM', hm'⟩
  exact ⟨rfl, M.dat, O', i, j, M', S, M'.nt, M'.ch, hM', hm', hd, hs⟩
/-- The notes of a draw were handed out. -/
structure NtD (N : Sl NtM) (B : Int) : Prop where
  ex : ∃ b : Bl, N.l.map NtM.dat = [.prom b] ∧ 1 ≤ b.1 ∧ b.1 ≤ B ∧ b.2 = 1
def InvD (W w : World) (pb sb n : Nat) (B : Int) (N : Sl NtM) (C : Sl Et) : Prop := NtD N B ∧ ∃ (O : Owners) (i j : Nat) (M : PM) (S : SvM), M.leads = true ∧ Mid W w O i pb j sb M S N C ∧ Dt M.dat n B ∧ SvOk S n B
theorem InvD.fr {W w w' : World} {pb sb n : Nat} {B : Int} {N : Sl NtM} {C : Sl Et} (h : InvD W w pb sb n B N C) (hb : Below w.heap.size w w') : InvD W w' pb sb n B N C := by
  obtain ⟨hn, O, i, j, M, S, h0, h1, h2, h3⟩ := h
  exact ⟨hn, O, i, j, M, S, h0, Mid.fr (O' := O) h1 hb, h2, h3⟩
theorem InvD.to {N : Sl NtM} {C : Sl Et} (h : InvD W w pb sb n B N C) : InvB W w pb sb n B true := by
  obtain ⟨hn, O, i, j, M, S, h0, h1, h2, h3⟩ := h
  exact ⟨O, i, j, M, S, N, C, h0, h1, h2, h3⟩
theorem ready_d (h : InvDr W w pb sb n B) (hB : 0 ≤ B) :
    Calls Tryz.prog 9 #[.pointer (some ⟨pb, 0, none⟩)] w fun e w' => ∃ (N : Sl NtM) (la : Option Addr) (lc : Nat) (C : Sl Et) (ri : Int) (xa : Option Addr) (xl xc : Nat), e = .returned (.agg #[.slice N.a N.l.length N.c, .slice la 0 lc, .slice C.a C.l.length C.c, .int .i64 ri, .slice xa xl xc]) ∧ InvD W w' pb sb n (B + 1) N C := by
  obtain ⟨P, O, i, j, M, S, N, C, hM, hm, hd, hs⟩ := h
  refine (ready_drawn hm hd hB hM).mono ?_
  rintro e w' ⟨N', la, lc, C', ri, xa, xl, xc, rfl, hN, O', M', hl, hm', hd'⟩
  exact ⟨N', la, lc, C', ri, xa, xl, xc, rfl, ⟨_, hN, next_le hd hB⟩, O', i, j, M', S, hl, hm', hd', hs.mono (by omega)⟩
theorem InvD.cells {N : Sl NtM} {C : Sl Et} (h : InvD W w pb sb n B N C) (k : Nat) (hk : k < N.l.length) : ∃ g off, N.a = some ⟨g, off, none⟩ ∧ g < w.heap.size ∧ Cells16 w g (off + k * 16) N.l[k] := by
  obtain ⟨hn, O, i, j, M, S, h0, h1, h2, h3⟩ := h
  exact note_cells h1.nts.1 k hk
theorem InvD.len {N : Sl NtM} {C : Sl Et} (h : InvD W w pb sb n B N C) : N.l.length = 1 := by
  obtain ⟨b, hb, -⟩ := h.1.ex
  have h := congrArg List.length hb
  rw [List.length_map] at h
  exact h
theorem put_d {N : Sl NtM} {C : Sl Et} {rb : Nat} {la : Option Addr} {lc : Nat} {ri : Int} {xa : Option Addr} {xl xc : Nat} (h : InvD W w pb sb n B N C) (hn : n ≤ 1000) (hx : BoxR w rb N la lc C ri xa xl xc) (k : Nat) (hk : k < N.l.length) :
    Calls Tryz.prog 10 #[.pointer (some ⟨sb, 0, none⟩), nval N.l[k]] w fun e w' => e = .returned (.bool true) ∧ InvD W w' pb sb n B N C ∧ BoxR w' rb N la lc C ri xa xl xc := by
  obtain ⟨⟨b, hb, b1, b2, b3⟩, O, i, j, M, S, hl, hm, hd, hs⟩ := h
  refine (putD hm hs hn hb hk b1 b2 b3).mono ?_
  rintro e w' ⟨rfl, hK, S', hm', hs'⟩
  refine ⟨rfl, ⟨⟨b, hb, b1, b2, b3⟩, O, i, j, M, S', hl, hm', hd, hs'⟩, (hK.block rb (kit.blk hx).2.2 ?_).trans hx⟩
  rintro rfl
  have h1 := hm.sav.blk
  have h2 : w.heap[rb]? = _ := hx
  rw [h1] at h2
  simp at h2
/-- A value was proposed. -/
def InvS (W w : World) (pb sb n : Nat) (B : Int) (d : List Nat) : Prop := ∃ (P : PD) (O : Owners) (i j : Nat) (M : PM) (S : SvM) (N : Sl NtM) (C : Sl Et), M.dat = P.sent d ∧ P.leads = true ∧ Mid W w O i pb j sb M S N C ∧ Dt P n B ∧ SvOk S n B
theorem send_yes {b : Sl Nat} (h : InvB W w pb sb n B true) (hn : n ≤ 1000) (hb : RdB w b) (h1 : 1 ≤ b.l.length) (h2 : b.l.length ≤ 2048) :
    Calls Tryz.prog 7 #[.pointer (some ⟨pb, 0, none⟩), .slice b.a b.l.length b.c] w fun e w' => e = .returned (.int .i64 0) ∧ InvS W w' pb sb n B b.l := by
  obtain ⟨O, i, j, M, S, N, C, hl, hm, hd, hs⟩ := h
  have hc := send_go hm hd hn hb h1 h2
  rw [hl] at hc
  refine hc.mono ?_
  rintro e w' ⟨rfl, M', O', hM', hm'⟩
  have hM' : M'.dat = M.dat.sent b.l := hM'
  exact ⟨rfl, M.dat, O', i, j, M', S, M'.nt, M'.ch, hM', hl, hm', hd, hs⟩
/-- The notes of a value were handed out; k of them are put. -/
def InvP (W w : World) (pb sb n : Nat) (B : Int) (d : List Nat) (N : Sl NtM) (C : Sl Et) (k : Nat) : Prop := ∃ (v : V4) (O : Owners) (i j : Nat) (M : PM) (S : SvM), (N.l.map NtM.dat = [.vote v, .entry v.s v.l] ∧ C.l.map le = [(v.s, v.l)] ∧ v.s = (n : Int) + 1 ∧ 1 ≤ v.r ∧ v.r ≤ B ∧ v.n = 1 ∧ v.l = d ∧ d.length ≤ 2048) ∧ M.leads = true ∧ Mid W w O i pb j sb M S N C ∧ Dt M.dat (n + 1) B ∧ SvK S n B v k
theorem ready_s {d : List Nat} (h : InvS W w pb sb n B d) (hdl : d.length ≤ 2048) :
    Calls Tryz.prog 9 #[.pointer (some ⟨pb, 0, none⟩)] w fun e w' => ∃ (N : Sl NtM) (la : Option Addr) (lc : Nat) (C : Sl Et) (ri : Int) (xa : Option Addr) (xl xc : Nat), e = .returned (.agg #[.slice N.a N.l.length N.c, .slice la 0 lc, .slice C.a C.l.length C.c, .int .i64 ri, .slice xa xl xc]) ∧ InvP W w' pb sb n B d N C 0 := by
  obtain ⟨P, O, i, j, M, S, N, C, hM, hL, hm, hd, hs⟩ := h
  refine (ready_sent hm hd hL hM).mono ?_
  rintro e w' ⟨N', la, lc, C', ri, xa, xl, xc, rfl, hN, hC, O', M', hl, hm', hd'⟩
  obtain ⟨hlo, hn1⟩ := hd.lead hL
  have hr := hlo.real
  have hr1 : 1 ≤ P.A.r := by
    unfold acca.realB at hr
    simp at hr
    exact hr.1
  exact ⟨N', la, lc, C', ri, xa, xl, xc, rfl, ⟨n + 1, P.A.r, P.A.n, d⟩, O', i, j, M', S, ⟨hN, hC, rfl, hr1, hd.bal.1.2, hn1, rfl, hdl⟩, hl, hm', hd', hs⟩
theorem InvP.fr {W w w' : World} {pb sb n k : Nat} {B : Int} {d : List Nat} {N : Sl NtM} {C : Sl Et} (h : InvP W w pb sb n B d N C k) (hb : Below w.heap.size w w') : InvP W w' pb sb n B d N C k := by
  obtain ⟨v, O, i, j, M, S, hv, h0, h1, h2, h3⟩ := h
  exact ⟨v, O, i, j, M, S, hv, h0, Mid.fr (O' := O) h1 hb, h2, h3⟩
theorem InvP.cells {d : List Nat} {N : Sl NtM} {C : Sl Et} {k : Nat} (h : InvP W w pb sb n B d N C k) (hk : k < N.l.length) : ∃ g off, N.a = some ⟨g, off, none⟩ ∧ g < w.heap.size ∧ Cells16 w g (off + k * 16) N.l[k] := by
  obtain ⟨v, O, i, j, M, S, hv, h0, h1, h2, h3⟩ := h
  exact note_cells h1.nts.1 k hk
theorem InvP.len {d : List Nat} {N : Sl NtM} {C : Sl Et} {k : Nat} (h : InvP W w pb sb n B d N C k) : N.l.length = 2 ∧ C.l.length = 1 := by
  obtain ⟨v, O, i, j, M, S, ⟨hN, hC, -⟩, -⟩ := h
  have h1 := congrArg List.length hN
  have h2 := congrArg List.length hC
  rw [List.length_map] at h1 h2
  exact ⟨h1, h2⟩
theorem put_p {d : List Nat} {N : Sl NtM} {C : Sl Et} {rb k : Nat} {la : Option Addr} {lc : Nat} {ri : Int} {xa : Option Addr} {xl xc : Nat} (h : InvP W w pb sb n B d N C k) (hn : n ≤ 1000) (hx : BoxR w rb N la lc C ri xa xl xc) (hk : k < N.l.length) :
    Calls Tryz.prog 10 #[.pointer (some ⟨sb, 0, none⟩), nval N.l[k]] w fun e w' => e = .returned (.bool true) ∧ InvP W w' pb sb n B d N C (k + 1) ∧ BoxR w' rb N la lc C ri xa xl xc := by
  obtain ⟨v, O, i, j, M, S, ⟨hN, hC, v1, v2, v3, v4, v5, v6⟩, hl, hm, hd, hs⟩ := h
  refine (putK hm hs hn hN hk v1 v2 v3 v4 (by rw [v5]; exact v6)).mono ?_
  rintro e w' ⟨rfl, hK, S', hm', hs'⟩
  refine ⟨rfl, ⟨v, O, i, j, M, S', ⟨hN, hC, v1, v2, v3, v4, v5, v6⟩, hl, hm', hd, hs'⟩, (hK.block rb (kit.blk hx).2.2 ?_).trans hx⟩
  rintro rfl
  have h1 := hm.sav.blk
  have h2 : w.heap[rb]? = _ := hx
  rw [h1] at h2
  simp at h2
/-- What was chosen, as it lies. -/
theorem InvP.chosen {d : List Nat} {N : Sl NtM} {C : Sl Et} {k : Nat} (h : InvP W w pb sb n B d N C k) : ∃ (g off : Nat) (b : Sl Nat), C.a = some ⟨g, off, none⟩ ∧ C.l.length = 1 ∧ g < w.heap.size ∧ w.cell? ⟨g, off, none⟩ = some (.int .i64 ((n : Int) + 1)) ∧ w.cell? ⟨g, off + 1, none⟩ = some (.slice b.a b.l.length b.c) ∧ b.l = d ∧ RdB w b := by
  have hlen := h.len.2
  obtain ⟨v, O, i, j, M, S, ⟨hN, hC, v1, v2, v3, v4, v5, v6⟩, hl, hm, hd, hs⟩ := h
  obtain ⟨g, off, e1, e2, e3, e4⟩ := ent_cells hm.chs 0 (by omega)
  have hc : (C.l.map le)[0]? = some (le (C.l[0]'(by omega))) := by rw [List.getElem?_map, List.getElem?_eq_getElem (by omega : 0 < C.l.length)]; rfl
  rw [hC] at hc
  simp only [List.getElem?_cons_zero, Option.some.injEq] at hc
  have c1 : v.s = (C.l[0]'(by omega)).s := congrArg Prod.fst hc
  have c2 : v.l = (C.l[0]'(by omega)).l := congrArg Prod.snd hc
  rw [← c1, v1] at e3
  exact ⟨g, off, ⟨(C.l[0]'(by omega)).a, (C.l[0]'(by omega)).c, (C.l[0]'(by omega)).l⟩, e1, hlen, e2, by simpa using e3, by simpa using e4, by rw [← v5, c2], (hm.chs.body _ (List.getElem_mem (by omega))).rd⟩
/-- The notes are put. -/
theorem InvP.done {d : List Nat} {N : Sl NtM} {C : Sl Et} (h : InvP W w pb sb n B d N C 2) : InvB W w pb sb (n + 1) B true := by
  obtain ⟨v, O, i, j, M, S, hv, h0, h1, h2, h3⟩ := h
  exact ⟨O, i, j, M, S, N, C, h0, h1, h2, h3⟩
theorem commit_inv {l : Bool} (h : InvB W w pb sb n B l) (hn : n ≤ 1000) :
    Calls Tryz.prog 12 #[.pointer (some ⟨pb, 0, none⟩)] w fun e w' => e = .returned (.int .i64 n) ∧ Below w.heap.size w w' := by
  obtain ⟨O, i, j, M, S, N, C, h0, h1, h2, h3⟩ := h
  exact commit_go h1 h2 hn
/-- A new member of what was saved. -/
def InvN (W w : World) (pb sb n : Nat) (B : Int) : Prop := ∃ (O : Owners) (i j : Nat) (M : PM) (S : SvM) (N : Sl NtM) (C : Sl Et), M.dat = newD 1 1 S ∧ Mid W w O i pb j sb M S N C ∧ SvOk S n B
theorem InvN.leads (h : InvN W w pb sb n B) : Calls Tryz.prog 6 #[.pointer (some ⟨pb, 0, none⟩)] w fun e w' => e = .returned (.bool false) ∧ w' = w := by
  obtain ⟨O, i, j, M, S, N, C, hM, hm, hs⟩ := h
  have h := leads_ok w O i pb M hm.peer
  have hl : M.leads = false := by
    have h : M.leads = (newD 1 1 S).leads := congrArg PD.leads hM
    exact h
  rw [hl] at h
  exact h
theorem InvN.commit (h : InvN W w pb sb n B) (hn : n ≤ 1000) : Calls Tryz.prog 12 #[.pointer (some ⟨pb, 0, none⟩)] w fun e w' => e = .returned (.int .i64 n) ∧ Below w.heap.size w w' := by
  obtain ⟨O, i, j, M, S, N, C, hM, hm, hs⟩ := h
  have hi : M.index = 0 := (congrArg PD.index hM).trans hs.ix
  have hc : M.en.l.length = n := by
    have h := congrArg List.length (congrArg PD.entries hM)
    have h2 : (M.en.l.map le).length = (S.en.l.map le).length := h
    rw [List.length_map, List.length_map, hs.len] at h2
    exact h2
  have h2 := commit_ok w O i pb M hm.peer (by rw [hi]; decide) (by omega)
  rw [hi, hc] at h2
  rw [show (0 : Int) + (n : Int) = n by omega] at h2
  exact h2
theorem InvN.fr {W w w' : World} {pb sb n : Nat} {B : Int} (h : InvN W w pb sb n B) (hb : Below w.heap.size w w') : InvN W w' pb sb n B := by
  obtain ⟨O, i, j, M, S, N, C, h0, h1, h2⟩ := h
  exact ⟨O, i, j, M, S, N, C, h0, Mid.fr (O' := O) h1 hb, h2⟩
theorem InvN.ready (h : InvN W w pb sb n B) :
    Calls Tryz.prog 9 #[.pointer (some ⟨pb, 0, none⟩)] w fun e w' => ∃ (N : Sl NtM) (la : Option Addr) (lc : Nat) (C : Sl Et) (ri : Int) (xa : Option Addr) (xl xc : Nat), e = .returned (.agg #[.slice N.a N.l.length N.c, .slice la 0 lc, .slice C.a C.l.length C.c, .int .i64 ri, .slice xa xl xc]) ∧ C.l.length = n ∧ Inv W w' pb sb n B := by
  obtain ⟨O, i, j, M, S, N, C, hM, hm, hs⟩ := h
  refine (ready_new hm hs hM).mono ?_
  rintro e w' ⟨N', la, lc, C', ri, xa, xl, xc, rfl, hC, O', M', hm', hd'⟩
  exact ⟨N', la, lc, C', ri, xa, xl, xc, rfl, hC, _, O', i, j, M', S, N', C', rfl, hm', hd', hs⟩
/-- The saved struct as it lies: nine cells; and New of it. -/
theorem new_inv {l : Bool} (h : InvB W w pb sb n B l) (hn : n ≤ 1000) :
    ∃ S : SvM, w.heap[sb]? = some (.cells S.cells 33 (0, 0)) ∧
    Calls Tryz.prog 4 #[.int .i64 1, .int .i64 1, S.val] w fun e w' => ∃ pb', e = .returned (.tuple #[.pointer (some ⟨pb', 0, none⟩), .int .i64 0]) ∧ InvN W w' pb' sb n B := by
  obtain ⟨O, i, j, M, S, N, C, h0, h1, h2, h3⟩ := h
  refine ⟨S, h1.sav.blk, (new_go h1 h3 hn).mono ?_⟩
  rintro e w' ⟨pb', rfl, M', O', i', hM', hm'⟩
  exact ⟨pb', rfl, O', i', j, M', S, M'.nt, M'.ch, hM', hm', h3⟩
end
end Go.Proofs.YtcaakiaenfkeaaaGreat.peos
