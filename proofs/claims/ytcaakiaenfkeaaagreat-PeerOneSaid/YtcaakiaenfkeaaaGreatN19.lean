/-
  elect: a candidate leads, if enough have promised all and it knows as much as they.
-/
import Derived.Test.YtcaakiaenfkeaaaGreatN15
import Derived.Test.YtcaakiaenfkeaaaGreatN12
import Derived.Test.YtcaakiaenfkeaaaGreatN18
namespace Go.Proofs.YtcaakiaenfkeaaaGreat.peel
open Go.ChangeShapes Go.WideShapes Go.ChangeAt Go.RowKit
open Go.Proofs.YtcaakiaenfkeaaaGreat.kit Go.Proofs.YtcaakiaenfkeaaaGreat.mapkit Go.Proofs.YtcaakiaenfkeaaaGreat.byt Go.Proofs.YtcaakiaenfkeaaaGreat.own Go.Proofs.YtcaakiaenfkeaaaGreat.accd Go.Proofs.YtcaakiaenfkeaaaGreat.accb Go.Proofs.YtcaakiaenfkeaaaGreat.acce Go.Proofs.YtcaakiaenfkeaaaGreat.chd Go.Proofs.YtcaakiaenfkeaaaGreat.che Go.Proofs.YtcaakiaenfkeaaaGreat.ownr Go.Proofs.YtcaakiaenfkeaaaGreat.pep Go.Proofs.YtcaakiaenfkeaaaGreat.peb Go.Proofs.YtcaakiaenfkeaaaGreat.pem Go.Proofs.YtcaakiaenfkeaaaGreat.pen Go.Proofs.YtcaakiaenfkeaaaGreat.pes Go.Proofs.YtcaakiaenfkeaaaGreat.peq Go.Proofs.YtcaakiaenfkeaaaGreat.pee Go.Proofs.YtcaakiaenfkeaaaGreat.pet Go.Proofs.YtcaakiaenfkeaaaGreat.pepr
open Go.Proofs.YtcaakiaenfkeaaaGreat.bal (enoughB)
open Go.Proofs.YtcaakiaenfkeaaaGreat.chq (openE openL)
set_option linter.unusedVariables false
set_option linter.unusedSimpArgs false
set_option maxHeartbeats 4000000
set_option maxRecDepth 100000

theorem infoInt : (Tryz.prog.info? 3).map (fun i => (i.zero, i.size, i.bytes)) = some (some (.int .i64 0), 1, 8) := by kernel_rfl
theorem infoProm : (Tryz.prog.info? 115).map (fun i => (i.zero, i.size, i.bytes)) = some (some (.agg #[.int .i64 0, .slice none 0 0]), 2, 32) := by kernel_rfl
/-- Who has promised all, of the nodes below k. -/
def whoN (M : PM) (k : Nat) : List Nat := (List.range k).filter fun j => (M.pr j).done
def ofN (l : List Nat) : List Int := l.map fun j : Nat => (j : Int)
theorem whoN_succ (M : PM) (k : Nat) : whoN M (k + 1) = whoN M k ++ if (M.pr k).done then [k] else [] := by
  unfold whoN
  rw [List.range_succ, List.filter_append]
  congr 1
  cases h : (M.pr k).done <;> simp [List.filter_cons, h]
theorem whoN_lt (M : PM) (k : Nat) : ∀ j ∈ whoN M k, j < k := fun j hj => List.mem_range.1 (List.mem_filter.1 hj).1
theorem whoN_len (M : PM) (k : Nat) : (whoN M k).length ≤ k := by
  unfold whoN
  exact Nat.le_trans (List.length_filter_le _ _) (by simp)
theorem who_dat (M : PM) : M.dat.who = whoN M 6 := rfl
/-- A row of numbers of one's own, to read. -/
theorem roi_own {w : World} {base n c : Nat} {a : Option Addr} {l : List Int} (h : w.ownsRow base 3 1 (.slice a n c) n (nints l)) (hn : n = l.length) (hl : l.length ≤ 140737488355328) : RoI w ⟨a, c, l⟩ := by
  subst hn
  obtain ⟨ao, cap, e, h1, h2, h3⟩ := owned_lie h
  simp only [Value.slice.injEq, true_and] at e
  obtain ⟨rfl, rfl⟩ := e
  refine ⟨h1, hl, h2, fun g off hg => ?_⟩
  have hg : a = some ⟨g, off, none⟩ := hg
  subst hg
  obtain ⟨cur, hcur⟩ := own_heap h g (by rw [logq.own_at h g off rfl])
  exact ⟨cur, hcur⟩
/-- A promise whose votes can be read while a block of tag (i, 9) is written. -/
structure GoodQ (w : World) (O : Owners) (i : Nat) (p : Pt) : Prop where
  good : GoodP w p
  tag : ∀ g off, p.a = some ⟨g, off, none⟩ → g < w.heap.size ∧ O g ≠ (i, 9)
  rob : ∀ x ∈ p.vs, RoB w ⟨x.a, x.c, x.l⟩
theorem GoodQ.fr {w w' : World} {O O' : Owners} {i : Nat} {p : Pt} (h : GoodQ w O i p) (F : Fr (fun t => t = (i, 9)) w O w' O') : GoodQ w' O' i p := by
  obtain ⟨⟨⟨hr, hg, hl⟩, hn, hd⟩, ht, hb⟩ := h
  refine ⟨⟨⟨rows_same hr F.size (fun g off e => F.same g (ht g off e).1 (ht g off e).2), fun x hx => ?_, hl⟩, hn, hd⟩, fun g off e => ⟨Nat.lt_of_lt_of_le (ht g off e).1 F.size, by rw [F.own g (ht g off e).1]; exact (ht g off e).2⟩, fun x hx => (hb x hx).fr F⟩
  have := (hb x hx).fr F
  exact ⟨this.lie, (hg x hx).nil, (hg x hx).len, (hg x hx).byt, (hg x hx).slot⟩
/-- The slots of a member's votes are numbers. -/
def SlP (M : PM) : Prop := ∀ j, j < 6 → (M.pr j).vs.l.length ≤ 2932031007402 ∧ ∀ v ∈ (M.pr j).vs.l, -9223372036854775808 ≤ v.s ∧ v.s ≤ 9223372036854775807
theorem good_prom {w : World} {O : Owners} {i pb : Nat} {M : PM} (h : PeerAt w O i pb M) (hs : SlP M) (j : Nat) (hj : j < 6) : GoodQ w O i ⟨(j : Int), (M.pr j).vs.l, (M.pr j).vs.a, (M.pr j).vs.c⟩ := by
  have hv := h.parts.prm j hj (fun x => x)
  obtain ⟨ao, cap, e, h1, h2, h3⟩ := owned_lie hv.row.row
  simp only [Value.slice.injEq, true_and] at e
  obtain ⟨rfl, rfl⟩ := e
  refine ⟨⟨⟨own_rows (fun _ => rfl) hv.row.row, fun x hx => ?_, (hs j hj).1⟩, h1, by constructor <;> dsimp only <;> omega⟩, fun g off hg => ?_, hv.body⟩
  · have hb := hv.body x hx
    exact ⟨hb.lie, hb.nil, hb.len, hb.byt, (hs j hj).2 x hx⟩
  · have hg : (M.pr j).vs.a = some ⟨g, off, none⟩ := hg
    have e0 := logq.own_at (hg ▸ hv.row.row) g off rfl
    subst e0
    refine ⟨(own_from hv.row.row g hg).2, ?_⟩
    rw [hv.row.tag g hg]
    intro e
    have := congrArg Prod.snd e
    dsimp only at this
    omega
/-- The promises of those who have promised all. -/
def prs (M : PM) (wl : List Nat) : List chp.Pr := wl.map fun j : Nat => ⟨(j : Int), ((if (j : Int) = M.node then M.A.vs else (M.pr j).vs.l.map lv)).map v4v⟩
/-- At the head of the second loop. -/
def LoopE (w3 : World) (O : Owners) (i : Nat) (M : PM) (wl : List Nat) (wr : World) (v : Value) (k : Nat) : Prop :=
  ∃ (O' : Owners) (a : Option Addr) (c : Nat) (pts : List Pt), v = .slice a pts.length c ∧ Row wr O' (i, 9) 115 2 a c pts.length (pts.flatMap Pt.cells) ∧ Fr (fun t => t = (i, 9)) w3 O wr O' ∧ (∀ p ∈ pts, GoodQ wr O' i p) ∧ pts.map pv = (prs M wl).take k
theorem good_votes {wr wv : World} {O : Owners} {i pb : Nat} {M : PM} {v : Value} (h : PeerAt wr O i pb M) (hbyt : ∀ v ∈ M.A.vs, Byt v.l) (ht : accc.Told wr wv v M.A.vs) (hb : Below wr.heap.size wr wv) (j : Nat) (hj : j < 6) :
    ∃ (a : Option Addr) (c : Nat) (xs : List Vt), v = .slice a xs.length c ∧ xs.map lv = M.A.vs ∧ GoodQ wv O i ⟨(j : Int), xs, a, c⟩ := by
  obtain ⟨a, c, xs, rfl, hx, hrow, hbd⟩ := ht
  obtain ⟨⟨vs, hat, e⟩, -, -⟩ := h.parts.acc (fun x => x)
  have hlen : xs.length = vs.length := by rw [← e] at hx; have := congrArg List.length hx; rwa [List.length_map, List.length_map] at this
  have h16 := hat.len
  have hone := hat.one
  have hin : ∀ x ∈ xs, x.l.length ≤ 2048 ∧ -9223372036854775808 ≤ x.s ∧ x.s ≤ 9223372036854775807 := by
    intro x hxm
    have h1 : lv x ∈ vs.map lv := by rw [e, ← hx]; exact List.mem_map_of_mem hxm
    obtain ⟨u, hu, he⟩ := List.mem_map.1 h1
    have e1 : u.s = x.s := congrArg V4.s he
    have e2 : u.l = x.l := congrArg V4.l he
    have r := hat.rng u hu
    have f := hat.fit u hu
    rw [e2] at f
    exact ⟨f, by omega, by omega⟩
  have hrb : ∀ x ∈ xs, RoB wv ⟨x.a, x.c, x.l⟩ := fun x hxm => rob_own (hbd x hxm) rfl (by have := (hin x hxm).1; omega) (hbyt (lv x) (by rw [← hx]; exact List.mem_map_of_mem hxm))
  obtain ⟨ao, cap, e0, h1, h2, h3⟩ := owned_lie hrow
  simp only [Value.slice.injEq, true_and] at e0
  obtain ⟨rfl, rfl⟩ := e0
  refine ⟨a, c, xs, rfl, hx, ⟨⟨own_rows (fun _ => rfl) hrow, fun x hxm => ?_, by dsimp only; omega⟩, h1, by constructor <;> dsimp only <;> omega⟩, fun g off hg => ?_, hrb⟩
  · have := hrb x hxm
    exact ⟨this.lie, this.nil, this.len, this.byt, (hin x hxm).2⟩
  · have hg : a = some ⟨g, off, none⟩ := hg
    have e0 := logq.own_at (hg ▸ hrow) g off rfl
    subst e0
    have hf := own_from hrow g hg
    refine ⟨hf.2, ?_⟩
    rw [h.clean g hf.1]
    intro e5
    exact h.me (congrArg Prod.fst e5).symm
theorem still_prom : ¬ Still 115 := by rintro (e | e) <;> exact absurd e (by decide)
theorem loopE_step {w3 wr wv w5 : World} {O O4 : Owners} {i : Nat} {M : PM} {wl : List Nat} {a4 a5 a9 : Option Addr} {c4 c5 c9 j k : Nat} {pts : List Pt} {xs : List Vt} {o : Obj} (hcl : ownr.Clean wr O4) (hrow : Row wr O4 (i, 9) 115 2 a4 c4 pts.length (pts.flatMap Pt.cells)) (F4 : Fr (fun t => t = (i, 9)) w3 O wr O4) (hgq : ∀ p ∈ pts, GoodQ wr O4 i p) (hpv : pts.map pv = (prs M wl).take k)
    (hb : Below wr.heap.size wr wv) (hg : GoodQ wv O4 i ⟨(j : Int), xs, a9, c9⟩) (hpk : (prs M wl)[k]? = some (pv ⟨(j : Int), xs, a9, c9⟩)) (hown : w5.ownsRow 0 115 2 (.slice a5 (pts.length + 1) c5) (pts.length + 1) (pts.flatMap Pt.cells ++ [.int .i64 (j : Int), .slice a9 xs.length c9])) (hgr : (wv.alloc o).grownBy w5 (Value.slice a4 pts.length c4).ownBlock)
    (hat : ∀ q, (Value.slice a5 (pts.length + 1) c5).ownBlock = some q → (Value.slice a4 pts.length c4).ownBlock = some q ∨ (wv.alloc o).heap.size ≤ q) : LoopE w3 O i M wl w5 (.slice a5 (pts.length + 1) c5) (k + 1) := by
  have hbo : Below wr.heap.size wr (wv.alloc o) := below_step hb (below_new1 wv o)
  have F0 : Fr (fun t => t = (i, 9)) wr O4 (wv.alloc o) O4 := Fr.of_below hcl hbo
  have F1 : Fr (fun _ => False) wr O4 (wv.alloc o) O4 := Fr.of_below hcl hbo
  have Fv : Fr (fun t => t = (i, 9)) wv O4 (wv.alloc o) O4 := Fr.of_below (hcl.more hb.size) (below_new1 wv o)
  obtain ⟨O2, hR, F2⟩ := (hrow.fr (fun x => x) F1).app (Fr.refl (fun t => t = (i, 9)) F0.clean) rfl still_prom (by omega) hown hgr hat
  refine ⟨O2, a5, c5, pts ++ [⟨(j : Int), xs, a9, c9⟩], by rw [List.length_append, List.length_singleton], ?_, F4.trans (F0.trans F2), fun p hp => ?_, ?_⟩
  · rw [List.length_append, List.length_singleton, List.flatMap_append, List.flatMap_singleton]; exact hR
  · rcases List.mem_append.1 hp with hp | hp
    · exact ((hgq p hp).fr F0).fr F2
    · rw [List.mem_singleton.1 hp]; exact (hg.fr Fv).fr F2
  · rw [List.map_append, List.map_singleton, hpv]
    obtain ⟨hk, e⟩ := List.getElem?_eq_some_iff.1 hpk
    rw [List.take_succ_eq_append_getElem hk, e]
/-- What Open has told is the member's own from now on. -/
theorem open_after {W wn : World} {O : Owners} {i pb : Nat} {M : PM} {a : Option Addr} {c : Nat} {es : List Et} {L : List (Int × List Nat)} (h : PeerAt W O i pb M) (hO : cho.OutE W wn a c es L) (hb : Below W.heap.size W wn) (hby : ∀ x ∈ L, Byt x.2) :
    ∃ O5, PeerAt wn O5 i pb M ∧ Fr (fun _ => False) W O wn O5 ∧ TodoAt wn O5 (i, 5) ⟨a, c, es⟩ := by
  have F : Fr (fun _ => False) W O wn O := Fr.of_below h.clean hb
  have hrb : ∀ e ∈ es, RoB wn ⟨e.a, e.c, e.l⟩ := fun e he => rob_own (hO.own.body e he) rfl (hO.len e he) (hby (le e) (by rw [← hO.data]; exact List.mem_map_of_mem he))
  cases a with
  | none =>
    have hr := hO.own.row
    rcases hr.2 with ⟨e1, e2⟩ | ⟨g, cap, cur, e1, _⟩
    · simp only [Value.slice.injEq, true_and] at e1
      obtain ⟨-, rfl⟩ := e1
      have : es = [] := List.eq_nil_of_length_eq_zero e2
      subst this
      exact ⟨O, PeerAt.below h hb, F, pert.todo_nil _ _ _⟩
    · simp at e1
  | some ad =>
    obtain ⟨g, off, sp⟩ := ad
    obtain ⟨e1, rfl, rfl⟩ : True ∧ off = 0 ∧ sp = none := by
      rcases hO.own.row.2 with ⟨e1, _⟩ | ⟨g', cap, cur, e1, _⟩
      · simp at e1
      · simp only [Value.slice.injEq, Option.some.injEq, Addr.mk.injEq] at e1; exact ⟨trivial, e1.1.2.1, e1.1.2.2⟩
    have hf := own_from hO.own.row g rfl
    have F2 := F.claim (i, 5) hf.1 hf.2
    exact ⟨O.put g (i, 5), h.fr (fun _ hf => hf) (fun hf => hf) F2, F2, petd.todo_own hO.own.row (put_self _ _ _) hrb⟩
/-- A new log of a member's own. -/
theorem peer_newlog {w w' : World} {O : Owners} {i pb : Nat} {M : PM} {f : Int} (h : PeerAt w O i pb M) (hl : logq.LogAt w' w.heap.size w.heap.size f 1024 []) (hb : Below w.heap.size w w') (hf1 : 1 ≤ f) (hf2 : f ≤ 1099511627776) :
    Behind w O i pb (Sf i 1) (w'.setCell ⟨pb, 37, none⟩ (.pointer (some ⟨w.heap.size, 0, none⟩))) { M with ob := some (w.heap.size, ⟨f, []⟩) } := by
  obtain ⟨h0, a, c, h1, h2⟩ := hl
  have hzz := (blk3 h1).2.2.2.2.2.2
  obtain ⟨O', hO'⟩ : ∃ O' : Owners, O' = fun k => if k = w.heap.size ∨ a = some ⟨k, 0, none⟩ then (i, 4) else O k := ⟨_, rfl⟩
  have F : Fr (fun _ => False) w O w' O' := by
    refine ⟨hb.os, hb.tape, hb.output, hb.size, fun k hk => ?_, fun k hk _ => hb.block k hk, kept_below hb, fun k hk => ?_⟩
    · rw [hO']; refine if_neg ?_
      rintro (rfl | e)
      · omega
      · have := (own_from h2 k e).1; omega
    · rw [hO']; dsimp only
      rw [if_neg (by
        rintro (rfl | e)
        · omega
        · have := (own_from h2 k e).2; omega)]
      exact h.clean k (Nat.le_trans hb.size hk)
  have P' := h.fr (fun _ hf => hf) (fun hf => hf) F
  have ht : O' w.heap.size = (i, 4) := by rw [hO']; exact if_pos (.inl rfl)
  have hL : LogOk w' O' (i, 4) w.heap.size ⟨f, []⟩ := by
    refine ⟨⟨Nat.zero_le _, a, c, h1, own_mono h2 (Nat.zero_le _)⟩, ht, fun g o n c' hc => ?_, ⟨hf1, hf2, by decide, by decide, by simp⟩, fun x hx => by simp at hx⟩
    rw [(blk3 h1).2.2.1] at hc
    simp only [Option.some.injEq, Value.slice.injEq] at hc
    obtain ⟨rfl, _⟩ := hc
    obtain rfl := logq.own_at h2 g o rfl
    rw [hO']; exact if_pos (.inr rfl)
  have F2 : Fr (Sf i 1) w' O' (w'.setCell ⟨pb, 37, none⟩ (.pointer (some ⟨w.heap.size, 0, none⟩))) O' := (Fr.refl (Sf i 1) P'.clean).set (p := ⟨pb, 37, none⟩) (.inr (.inl P'.tag)) P'.blk still_peer _
  have hP := P'.parts.fr (g := fun j => j = 1) (fun _ hf => hf.elim) (fun j hj => by rintro (e | e) <;> exact hj (congrArg Prod.snd e)) (sf_ro h.me) F2
  have hc : (pcells M).setIfInBounds 37 (.pointer (some ⟨w.heap.size, 0, none⟩)) = pcells { M with ob := some (w.heap.size, ⟨f, []⟩) } := by kernel_rfl
  refine ⟨O', ⟨F2.clean, h.me, by rw [← hc]; exact hp_set P'.blk 37 _, P'.tag, ⟨fun _ => hP.acc (by decide), fun _ => hP.ent (by decide), fun _ x hx => ?_, fun _ => hP.tdo (by decide), fun _ => hP.nts (by decide), fun _ => hP.lts (by decide), fun _ => hP.chs (by decide), fun j hj _ => hP.prm j hj (by omega), fun j hj _ => hP.box j hj (by omega), hP.img, hP.rim⟩⟩, (F.mono (fun _ hf => hf.elim)).trans F2⟩
  obtain rfl : (w.heap.size, (⟨f, []⟩ : LogM)) = x := Option.some.inj hx
  exact hL.fr (by rintro (e | e) <;> exact absurd (show (4 : Nat) = 1 from congrArg Prod.snd e) (by decide)) F2
theorem ask_dat (M : PM) (dst : Int) (a : Option Addr) (c : Nat) : PM.dat { M with lt := ⟨a, c, M.lt.l ++ [askL M dst]⟩ } = M.dat.ask dst := by
  have h1 : M.dat.commit = M.index + M.en.l.length := by show M.index + ((M.en.l.map le).length : Int) = _; rw [List.length_map]
  have e : (askL M dst).dat = { ({ lt0 with kind := 7, slot := M.dat.commit + 1 } : Lt) with fr := M.dat.node, dst := dst } := by rw [h1]; rfl
  unfold PD.ask PD.tell
  rw [← e]
  simp only [PM.dat, List.map_append, List.map_singleton]
/-- What elect leaves. -/
theorem elect_ok (w : World) (O : Owners) (i pb : Nat) (M : PM) (h : PeerAt w O i pb M) (hg : PdOk M.dat) (hsl : Slim M.dat) (hbp : BytP M.dat) (hsp : SlP M) :
    Calls Tryz.prog 24 #[.pointer (some ⟨pb, 0, none⟩)] w (Post w O i pb M.dat.elect) := by
  obtain ⟨i0, hi, hz0, hz1, hz2⟩ := info_parts infoInt
  obtain ⟨CS, hCS⟩ : ∃ CS : List Value, CS = promC M := ⟨_, rfl⟩
  have hrg : w.rangeAt pb 13 CS := by rw [hCS]; exact prom_range h
  have hcl : CS.length = 24 := by rw [hCS]; rfl
  have HCS := Lib.hid hCS
  have HRG := Lib.hid hrg
  have HCL := Lib.hid (show (Tryz.prog.info? 63).map (·.size) = some CS.length by rw [hcl]; kernel_rfl)
  clear hCS hrg hcl
  have hCi : 0 ≤ M.index ∧ M.index ≤ 4398046511104 := by have h1 := hg.i0; have h2 := hg.en; exact ⟨h1, (by show M.dat.index ≤ _; omega)⟩
  have hCe : M.en.l.length ≤ 1000000000 := by have h1 := hg.i0; have h2 := hg.en; have h3 : M.dat.entries.length = M.en.l.length := List.length_map _; omega
  have hLt : M.lt.l.length ≤ 1000000000 := by have h2 := hg.lt; have h3 : M.dat.letters.length = M.lt.l.length := List.length_map _; omega
  have HCI := Lib.hid hCi
  have HCE := Lib.hid hCe
  have HLT := Lib.hid hLt
  have HP := Lib.hid h
  have HG := Lib.hid hg
  have HSL := Lib.hid hsl
  have HBP := Lib.hid hbp
  have HSP := Lib.hid hsp
  have HCA := Lib.hid (candidate_ok w O i pb M h)
  rw [cand_dat] at HCA
  clear h hg hsl hbp hsp hCi hCe hLt
  cases hc : M.dat.candidate with
  | false =>
    rw [hc] at HCA
    have HC := Lib.hid hc
    clear hc
    go_enter Tryz.func24, Tryz.ntmps24
    go_wp2_with (go_at_call 45; refine HCA.out.mono ?_; rintro e w2 ⟨rfl, e8⟩; obtain rfl := e8)
    refine bodyPost_end (v := .tuple #[]) (by simp [results, Tryz.results24, go_sem]) rfl ⟨rfl, M, (elect_no HC.out).symm, O, HP.out, Fr.refl _ HP.out.clean⟩
  | true =>
    rw [hc] at HCA
    have HC := Lib.hid hc
    clear hc
    go_enter Tryz.func24, Tryz.ntmps24
    go_wp2_with (first | (go_at_call 45; refine HCA.out.mono ?_; rintro e w2 ⟨rfl, e8⟩; obtain rfl := e8.symm) | (refine wpList_load_mid rfl 63 (.tmp 17) rfl pb 13 rfl CS _ HRG.out Tryz.underlying63 rfl HCL.out ?_))
    go_loopw [2, 19] (fun v t wr => ∃ k : Nat, k ≤ 6 ∧ t = .int .i64 k ∧ Hid (∃ (a : Option Addr) (c : Nat), v = .slice a (whoN M k).length c ∧ wr.ownsRow w.heap.size 3 1 (.slice a (whoN M k).length c) (whoN M k).length (nints (ofN (whoN M k)))) ∧ Hid (Below w.heap.size w wr)) (fun _ t _ => 6 - (RowKit.intOf t).toNat)
    case atStart => exact ⟨0, Nat.zero_le _, rfl, ⟨none, 0, rfl, World.ownsRow_nil _ _ _ _⟩, Below.refl _ _⟩
    case round =>
      obtain ⟨k, hk, rfl, HR, HB⟩ := hrel
      by_cases hlt : k < 6
      · have hki : (k : Int) < 6 := by omega
        obtain ⟨p, hp⟩ : ∃ p, p = M.pr k := ⟨_, rfl⟩
        have hix := prom_index wr M k hlt
        rw [← HCS.out, ← hp] at hix
        simp only [Sl.val] at hix
        have hsu := whoN_succ M k
        rw [← hp] at hsu
        have HPp := Lib.hid hp
        obtain ⟨w2, hw2⟩ : ∃ w2, w2 = wr.alloc (.cells #[.bool p.done, .int .i64 p.fr, .int .i64 p.commit, .slice p.vs.a p.vs.l.length p.vs.c] 62) := ⟨_, rfl⟩
        have hb2 : Below wr.heap.size wr w2 := by rw [hw2]; exact below_new1 _ _
        have hn2 : w2.heap[wr.heap.size]? = some (.cells #[.bool p.done, .int .i64 p.fr, .int .i64 p.commit, .slice p.vs.a p.vs.l.length p.vs.c] 62 (0, 0)) := by rw [hw2]; exact hp_alloc_new _ _
        have HB2 := Lib.hid (below_step HB.out hb2)
        have HN2 := Lib.hid hn2
        have HW2 := Lib.hid hw2
        have HBr := Lib.hid hb2
        obtain ⟨eb, heb⟩ : ∃ eb, eb = wr.heap.size := ⟨_, rfl⟩
        have HEB := Lib.hid heb
        have HSU := Lib.hid hsu
        clear hp hb2 hn2 hw2 heb hsu
        go_upto_region 5 with fail
        rw [← HW2.out, ← HEB.out]
        clear hix
        obtain ⟨q0, q1, q2, q3, -⟩ := blk4 HN2.out
        rw [← HEB.out] at q0 q1 q2 q3
        obtain ⟨pd, pf, pcm, pv⟩ := p
        dsimp only at q0 q1 q2 q3
        have hw9 : IntKind.i64.wrap ((k : Int) + 1) = (k : Int) + 1 := IntWalk.i64_in _ (by omega)
        obtain ⟨a, c, rfl, hrow⟩ := HR.out
        have hrow2 := own_below hrow HBr.out
        cases pd with
        | false =>
          have hsu : whoN M (k + 1) = whoN M k := by have := HSU.out; rw [this]; exact List.append_nil _
          have HR2 : Hid (∃ (a' : Option Addr) (c' : Nat), Value.slice a (whoN M k).length c = .slice a' (whoN M (k + 1)).length c' ∧ w2.ownsRow w.heap.size 3 1 (.slice a' (whoN M (k + 1)).length c') (whoN M (k + 1)).length (nints (ofN (whoN M (k + 1))))) := by rw [hsu]; exact ⟨a, c, rfl, hrow2⟩
          clear hrow hrow2 hsu HR
          go_wp2_with fail
          go_roundw
          case rel => exact ⟨k + 1, by omega, by go_num, HR2, HB2⟩
          case measure => simp [RowKit.intOf]; omega
        | true =>
          have hsu : whoN M (k + 1) = whoN M k ++ [k] := HSU.out
          have hwl := whoN_len M k
          obtain ⟨n, hn⟩ : ∃ n, n = (whoN M k).length := ⟨_, rfl⟩
          rw [← hn] at hrow hrow2 hwl
          rw [← hn]
          have HN := Lib.hid hn
          have HROW := Lib.hid hrow2
          have HS2 := Lib.hid hsu
          clear hrow hrow2 hsu HR hn
          go_wp2_with (at_builtin; refine wpl_append_at rfl (.tmp 25) (.tmp 27) 94 rfl w.heap.size 3 i0 (.int .i64 0) 1 8 Tryz.underlying94 hi hz0 hz1 hz2 rfl (by decide) _ n (nints (ofN (whoN M k))) rfl (HROW.out.alloc _) ⟨w2.heap.size, 0, none⟩ 1 1 [.int .i64 (k : Int)] rfl rfl (lie_list w2 3 [.int .i64 (k : Int)]) (by simp [Value.oneCell']) (by unfold maxLen; omega) (by omega) (Nat.le_trans HB2.out.size (below_new1 w2 _).size) ?_; intro v5 w5 hown hgr hat; obtain ⟨a5, c5, rfl⟩ := own_shape hown; have HO5 := Lib.hid hown; have HG5 := Lib.hid hgr; clear hown hgr hat)
          have HR5 : Hid (∃ (a' : Option Addr) (c' : Nat), Value.slice a5 (n + 1) c5 = .slice a' (whoN M (k + 1)).length c' ∧ w5.ownsRow w.heap.size 3 1 (.slice a' (whoN M (k + 1)).length c') (whoN M (k + 1)).length (nints (ofN (whoN M (k + 1))))) := by
            rw [HS2.out, List.length_append, List.length_singleton, ← HN.out]
            refine ⟨a5, c5, rfl, ?_⟩
            have e : nints (ofN (whoN M k ++ [k])) = nints (ofN (whoN M k)) ++ [.int .i64 (k : Int)] := by simp [nints, ofN]
            rw [e]; exact HO5.out
          have HB5 : Hid (Below w.heap.size w w5) := Below.grown (below_step HB2.out (below_new1 w2 _)) HG5.out (Nat.le_trans HB2.out.size (below_new1 w2 _).size) (fun j hj => (own_from HROW.out j (own_block HROW.out j hj)).1)
          go_roundw
          case rel => exact ⟨k + 1, by omega, by go_num, HR5, HB5⟩
          case measure => simp [RowKit.intOf]; omega
      · obtain rfl : k = 6 := by omega
        obtain ⟨a, c, rfl, hrow⟩ := HR.out
        obtain ⟨wl, hwl⟩ : ∃ wl : List Nat, wl = whoN M 6 := ⟨_, rfl⟩
        rw [← hwl] at hrow
        rw [← hwl]
        have hwn := whoN_len M 6
        have hwlt := whoN_lt M 6
        rw [← hwl] at hwn hwlt
        have R1 : RoI wr ⟨a, c, ofN wl⟩ := roi_own hrow (by simp [ofN]) (by simp only [ofN, List.length_map]; omega)
        have P1 := PeerAt.below HP.out HB.out
        have F1 : Fr (Mine i) w O wr O := Fr.of_below HP.out.clean HB.out
        have x1 : wr.cell? ⟨pb, 1, none⟩ = some (.int .i64 M.nodes) := (kit.blk P1.blk).1 1
        have hpz := (kit.blk P1.blk).2.2
        have HEN := Lib.hid (bal.enough_any M.nodes (ofN wl) a c wr (by simp only [ofN, List.length_map]; omega) R1.lie)
        rw [show (ofN wl).length = wl.length from List.length_map _] at HEN
        obtain ⟨w1, rfl⟩ : ∃ w1 : World, w1 = wr := ⟨_, rfl⟩
        have HP1 := Lib.hid P1
        have HF1 := Lib.hid F1
        have HR1 := Lib.hid R1
        have HWL := Lib.hid hwl
        have HWN := Lib.hid hwn
        have HWT := Lib.hid hwlt
        clear hrow hwl hwn hwlt R1 P1 F1 HR HB HCS HRG HCL
        cases hE : enoughB M.nodes (ofN wl) with
        | false =>
          rw [hE] at HEN
          have HX : Hid (M.dat.elect = M.dat) := elect_few HC.out (by rw [who_dat, ← HWL.out]; exact hE)
          clear hE
          go_wp2_with (go_at_call 46; refine HEN.out.mono ?_; rintro e w2 ⟨rfl, hb2⟩; have HB2 := Lib.hid hb2; clear hb2)
          refine bodyPost_end (v := .tuple #[]) (by simp [results, Tryz.results24, go_sem]) rfl ⟨rfl, M, HX.out.symm, O, PeerAt.below HP1.out HB2.out, HF1.out.trans (Fr.of_below HP1.out.clean HB2.out)⟩
        | true =>
          rw [hE] at HEN
          have HE : Hid (enoughB M.dat.nodes (M.dat.who.map fun i : Nat => (i : Int)) = true) := by rw [who_dat, ← HWL.out]; exact hE
          clear hE
          have HBH : Hid (∀ w2, Below w1.heap.size w1 w2 → Calls Tryz.prog 47 #[.pointer (some ⟨pb, 0, none⟩)] w2 fun e w' => e = .returned (.int .i64 (PM.behind M : Nat)) ∧ Below w2.heap.size w2 w') := fun w2 hb => behind_ok w2 O i pb M (PeerAt.below HP1.out hb) HCI.out HCE.out
          obtain ⟨bh, hbh⟩ : ∃ bh, bh = PM.behind M := ⟨_, rfl⟩
          rw [← hbh] at HBH
          have hbd : M.dat.behind = bh := by rw [hbh]; exact behind_dat M
          have HBD := Lib.hid hbd
          clear hbh hbd
          by_cases h0 : bh = 0
          · subst h0
            go_upto_region 12 with (first | (go_at_call 46; refine HEN.out.mono ?_; rintro e w2 ⟨rfl, hb2⟩; have HB2 := Lib.hid hb2; clear hb2) | (go_at_call 47; refine (HBH.out w2 HB2.out).mono ?_; rintro e w3 ⟨rfl, hb3⟩; have HB3 := Lib.hid hb3; clear hb3))
            have hb13 := below_step HB2.out HB3.out
            have P3 := PeerAt.below HP1.out hb13
            have F3 := HF1.out.trans (Fr.of_below (S := Mine i) HP1.out.clean hb13)
            have R3 := HR1.out.kept hb13.size (kept_below hb13)
            have hH0 : LoopE w3 O i M wl w3 (.slice none 0 0) 0 := ⟨O, none, 0, [], rfl, row_nil _ _ _ _ _, Fr.refl _ P3.clean, by simp, by simp⟩
            have HH0 := Lib.hid hH0
            have HP3 := Lib.hid P3
            have HF3 := Lib.hid F3
            have HR3 := Lib.hid R3
            clear hb13 P3 F3 R3 hH0 HEN HBH x1 hpz HR1
            go_wp2_with fail
            go_loopw [6, 46] (fun v t wr => ∃ k : Nat, k ≤ wl.length ∧ t = .int .i64 k ∧ Hid (LoopE w3 O i M wl wr v k)) (fun _ t _ => wl.length - (RowKit.intOf t).toNat)
            case atStart => exact ⟨0, Nat.zero_le _, rfl, HH0⟩
            case round =>
              obtain ⟨k, hk, rfl, HL⟩ := hrel
              obtain ⟨O4, a4, c4, pts, rfl, hrow, F4, hgq, hpv⟩ := HL.out
              have hlen : pts.length = k := by
                have h1 := congrArg List.length hpv
                simp only [List.length_map, List.length_take, prs] at h1
                omega
              have P4 := PeerAt.scratch HP3.out F4
              have R4 := HR3.out.fr F4
              have hpz := (kit.blk P4.blk).2.2
              have x1 : wr.cell? ⟨pb, 1, none⟩ = some (.int .i64 M.nodes) := (kit.blk P4.blk).1 1
              have x0 : wr.cell? ⟨pb, 0, none⟩ = some (.int .i64 M.node) := (kit.blk P4.blk).1 0
              have x2 : wr.cell? ⟨pb, 2, none⟩ = some (.pointer (some ⟨M.ab, 0, none⟩)) := (kit.blk P4.blk).1 2
              have HRW := Lib.hid hrow
              have HF4 := Lib.hid F4
              have HGQ := Lib.hid hgq
              have HPV := Lib.hid hpv
              have HP4 := Lib.hid P4
              clear hrow F4 hgq hpv P4 HL
              by_cases hlt : k < wl.length
              · have hki : (k : Int) < (wl.length : Int) := by omega
                obtain ⟨j, hj⟩ : ∃ j, j = wl[k] := ⟨_, rfl⟩
                have hj6 : j < 6 := by rw [hj]; exact HWT.out _ (List.getElem_mem hlt)
                obtain ⟨g, off, rfl, hgz, hgc⟩ : ∃ g off, a = some ⟨g, off, none⟩ ∧ g < wr.heap.size ∧ wr.cell? ⟨g, off + k, none⟩ = some (.int .i64 (j : Int)) := by
                  rcases R4.lie with h | ⟨g, off, h1, h2, h3⟩
                  · have : (nints (ofN wl)).length = 0 := by rw [h]; rfl
                    simp only [nints, ofN, List.length_map] at this
                    omega
                  · refine ⟨g, off, h1, h2, ?_⟩
                    rw [h3 k (by simp only [nints, ofN, List.length_map]; exact hlt), hj]
                    simp [nints, ofN, hlt]
                have xv : wr.cell? ⟨pb, 13 + j * 4 + 3, none⟩ = some (M.pr j).vs.val := by
                  rw [(kit.blk HP4.out.blk).1 (13 + j * 4 + 3)]
                  rcases (by omega : j = 0 ∨ j = 1 ∨ j = 2 ∨ j = 3 ∨ j = 4 ∨ j = 5) with e | e | e | e | e | e
                  all_goals
                    rw [e]; rfl
                have hj1 : (0 : Int) ≤ (j : Int) := by omega
                have hj2 : (j : Int) < 6 := by omega
                have hj3 : ((j : Int)).toNat = j := Int.toNat_natCast j
                have HJ := Lib.hid hj
                have HJ6 := Lib.hid hj6
                clear R4 hj
                obtain ⟨j0, hj0, hy0, hy1, hy2⟩ := info_parts infoProm
                obtain ⟨np, hnp⟩ : ∃ np, np = pts.length := ⟨_, rfl⟩
                rw [← hnp] at hlen
                rw [← hnp]
                have HNP := Lib.hid hnp
                have HLE := Lib.hid hlen
                have hw9 : IntKind.i64.wrap ((k : Int) + 1) = (k : Int) + 1 := IntWalk.i64_in _ (by have := HWN.out; omega)
                have hROW := HRW.out
                rw [← hnp] at hROW
                have HOW := Lib.hid hROW.row
                have hk6 : k < 6 := by have := HWN.out; omega
                have hnp6 : np < 6 := by omega
                clear hnp hROW hlen
                by_cases hme : (j : Int) = M.node
                · have t1 : ((j : Int) == M.node) = true := by simpa using hme
                  have HVO := Lib.hid (votes_ok wr 0 M.ab M.mb M.A (HP4.out.parts.acc (fun x => x)).1)
                  have HME := Lib.hid hme
                  clear hme
                  go_wp2_with (first | (go_at_call 42; refine HVO.out.mono ?_; rintro e wv ⟨vv, rfl, htd, hbv⟩; obtain ⟨a9, c9, xs, rfl, hxs, hgd⟩ := good_votes HP4.out HG.out.bya htd hbv j HJ6.out; have HXS := Lib.hid hxs; have HGD := Lib.hid hgd; have HBV := Lib.hid hbv; clear htd hxs hgd hbv) | (at_builtin; refine wpl_append_at rfl (.tmp 69) (.tmp 73) 113 rfl 0 115 j0 _ 2 32 Tryz.underlying113 hj0 hy0 hy1 hy2 rfl (by decide) _ np (pts.flatMap Pt.cells) rfl ((own_below HOW.out HBV.out).alloc _) ⟨wv.heap.size, 0, none⟩ 1 1 [.int .i64 (j : Int), .slice a9 xs.length c9] rfl rfl (lie_list wv 115 [.int .i64 (j : Int), .slice a9 xs.length c9]) (by simp [Value.oneCell']) (by unfold maxLen; omega) (by omega) (Nat.zero_le _) ?_; intro v5 w5 hown hgr hat; obtain ⟨a5, c5, rfl⟩ := own_shape hown; have HX5 := Lib.hid (And.intro hown (And.intro hgr hat)); clear hown hgr hat))
                  have HR5 : Hid (LoopE w3 O i M wl w5 (.slice a5 (np + 1) c5) (k + 1)) := by
                    obtain ⟨h1, h2, h3⟩ := HX5.out
                    rw [HNP.out] at h1 h2 h3 ⊢
                    refine loopE_step (o := .cells #[.int .i64 (j : Int), .slice a9 xs.length c9] 115) HP4.out.clean HRW.out HF4.out HGQ.out HPV.out HBV.out HGD.out ?_ h1 h2 h3
                    unfold prs
                    rw [List.getElem?_map, List.getElem?_eq_getElem hlt, ← HJ.out, Option.map_some, if_pos HME.out, ← HXS.out, List.map_map]
                    rfl
                  go_roundw
                  case rel => exact ⟨k + 1, by omega, by go_num, HR5⟩
                  case measure => simp [RowKit.intOf]; omega
                · have t1 : ((j : Int) == M.node) = false := by simpa using hme
                  have HME := Lib.hid hme
                  have HGD := Lib.hid (good_prom HP4.out HSP.out j HJ6.out)
                  obtain ⟨va, vc, vl, hvs⟩ : ∃ va vc vl, (M.pr j).vs = ⟨va, vc, vl⟩ := ⟨_, _, _, rfl⟩
                  rw [hvs] at xv HGD
                  have HVS := Lib.hid hvs
                  simp only [Sl.val] at xv
                  clear hme hvs
                  go_wp2_with (at_builtin; refine wpl_append_at rfl (.tmp 69) (.tmp 73) 113 rfl 0 115 j0 _ 2 32 Tryz.underlying113 hj0 hy0 hy1 hy2 rfl (by decide) _ np (pts.flatMap Pt.cells) rfl (HOW.out.alloc _) ⟨wr.heap.size, 0, none⟩ 1 1 [.int .i64 (j : Int), .slice va vl.length vc] rfl rfl (lie_list wr 115 [.int .i64 (j : Int), .slice va vl.length vc]) (by simp [Value.oneCell']) (by unfold maxLen; omega) (by omega) (Nat.zero_le _) ?_; intro v5 w5 hown hgr hat; obtain ⟨a5, c5, rfl⟩ := own_shape hown; have HX5 := Lib.hid (And.intro hown (And.intro hgr hat)); clear hown hgr hat)
                  have HR5 : Hid (LoopE w3 O i M wl w5 (.slice a5 (np + 1) c5) (k + 1)) := by
                    obtain ⟨h1, h2, h3⟩ := HX5.out
                    rw [HNP.out] at h1 h2 h3 ⊢
                    refine loopE_step (o := .cells #[.int .i64 (j : Int), .slice va vl.length vc] 115) HP4.out.clean HRW.out HF4.out HGQ.out HPV.out (Below.refl _ wr) HGD.out ?_ h1 h2 h3
                    unfold prs
                    rw [List.getElem?_map, List.getElem?_eq_getElem hlt, ← HJ.out, Option.map_some, if_neg HME.out, HVS.out, List.map_map]
                    rfl
                  go_roundw
                  case rel => exact ⟨k + 1, by omega, by go_num, HR5⟩
                  case measure => simp [RowKit.intOf]; omega
              · obtain rfl : k = wl.length := by omega
                have hle : ¬ (wl.length : Int) < (wl.length : Int) := by omega
                have hpd : pts.map pv = M.dat.proms := by
                  have h1 := HPV.out
                  rw [List.take_of_length_le (by simp [prs])] at h1
                  rw [h1, HWL.out]; rfl
                have hrp : RowP wr a4 pts := ⟨own_rows (fun _ => rfl) HRW.out.row, fun p hp => (HGQ.out p hp).good, by have := HWN.out; omega⟩
                obtain ⟨C, hC⟩ : ∃ C : Int, C = M.index + (M.en.l.length : Int) := ⟨_, rfl⟩
                have hcm : M.dat.commit = C := by rw [hC]; show M.index + ((M.en.l.map le).length : Int) = _; rw [List.length_map]
                have hC2 : 0 ≤ C ∧ C ≤ 900000000 := by have h1 := HG.out.i0; have h2 := HG.out.en; have h3 : M.dat.commit = M.dat.index + M.dat.entries.length := rfl; omega
                have hw : IntKind.i64.wrap (C + 1) = C + 1 := IntWalk.i64_in _ (by omega)
                obtain ⟨L, hL⟩ : ∃ L, L = openL M.nodes (C + 1) M.dat.proms := ⟨_, rfl⟩
                obtain ⟨E, hE⟩ : ∃ E, E = openE M.nodes (C + 1) M.dat.proms := ⟨_, rfl⟩
                have hLb : ∀ x ∈ L, Byt x.2 := by
                  intro x hx
                  rw [hL] at hx
                  obtain ⟨-, -, s, e2⟩ := openL_in x hx
                  rw [e2]
                  refine valS_byt (fun p hp v hv => ?_)
                  unfold PD.proms at hp
                  obtain ⟨z, -, rfl⟩ := List.mem_map.1 hp
                  dsimp only at hv
                  obtain ⟨u, hu, rfl⟩ := List.mem_map.1 hv
                  split at hu
                  · exact HG.out.bya u hu
                  · exact HBP.out z u hu
                have LC : Hid (∀ W : World, (W.cell? ⟨pb, 1, none⟩ = some (.int .i64 M.nodes) ∧ Below wr.heap.size wr W) → Calls Tryz.prog 12 #[.pointer (some ⟨pb, 0, none⟩)] W fun e w' => e = .returned (.int .i64 C) ∧ Below W.heap.size W w') := by
                  intro W hs
                  rw [hC]
                  exact commit_ok W O4 i pb M (PeerAt.below HP4.out hs.2) HCI.out (by have := HCE.out; omega)
                have LO : Hid (∀ W : World, (W.cell? ⟨pb, 1, none⟩ = some (.int .i64 M.nodes) ∧ Below wr.heap.size wr W) → Calls Tryz.prog 49 #[.int .i64 M.nodes, .int .i64 (C + 1), .slice a4 pts.length c4] W fun e w' => ∃ (a' : Option Addr) (c' : Nat) (es : List Et), e = .returned (.tuple #[.slice a' es.length c', .int .i64 E]) ∧ (∃ O5, PeerAt w' O5 i pb M ∧ Fr (fun _ => False) wr O4 w' O5 ∧ TodoAt w' O5 (i, 5) ⟨a', c', es⟩ ∧ es.map le = L) ∧ Below W.heap.size W w') := by
                  intro W hs
                  refine (chop.open_ok W M.nodes (C + 1) a4 c4 pts (hrp.below hs.2)).mono ?_
                  rw [hpd]
                  rintro e w' ⟨a', c', es, rfl, hO, hb⟩
                  rw [← hL] at hO
                  rw [← hE]
                  obtain ⟨O5, h1, h2, h3⟩ := open_after (PeerAt.below HP4.out hs.2) hO hb hLb
                  exact ⟨a', c', es, rfl, ⟨O5, h1, (Fr.of_below HP4.out.clean hs.2).trans h2, h3, hO.data⟩, hb⟩
                have hStab : ∀ Wx Wy : World, Below Wx.heap.size Wx Wy → (Wx.cell? ⟨pb, 1, none⟩ = some (.int .i64 M.nodes) ∧ Below wr.heap.size wr Wx) → (Wy.cell? ⟨pb, 1, none⟩ = some (.int .i64 M.nodes) ∧ Below wr.heap.size wr Wy) := by
                  intro Wx Wy kk hs
                  exact ⟨cell_step hs.1 kk, below_step hs.2 kk⟩
                have HST := Lib.hid hStab
                have HCM := Lib.hid hcm
                have HCC := Lib.hid hC
                have HC2 := Lib.hid hC2
                have HL := Lib.hid hL
                have HEE := Lib.hid hE
                clear hStab hpd hrp hC hcm hC2 hL hE hLb HRW HGQ HPV hlen x0 x2
                have hTT : True := trivial
                go_upto_region 21 with fail
                go_region_held3 (fun w' => w'.cell? ⟨pb, 1, none⟩ = some (.int .i64 M.nodes) ∧ Below wr.heap.size wr w') (first | (exact ⟨x1, below_drewN (Below.refl _ _) 1⟩) | (refine HST.out _ _ hbn ?_; assumption)) (first | (go_at_call 12; refine (LC.out _ (by assumption)).mono ?_; rintro e wn ⟨rfl, hbn⟩) | (go_at_call 49; refine (LO.out _ (by assumption)).mono ?_; rintro e wn ⟨at5, ct5, es, rfl, hafter, hbn⟩; have HAF := Lib.hid hafter; clear hafter))
                obtain ⟨O5, P5, F5, T5, hes⟩ := HAF.out
                have F05 : Fr (Mine i) w O wn O5 := HF3.out.trans ((HF4.out.mono nine_mine).trans (F5.mono (fun _ hf => hf.elim)))
                by_cases h0 : E = 0
                · subst h0
                  have hEL : M.dat.elect = PD.propose M.dat.lead.fuel M.dat.lead := elect_yes HC.out HE.out HBD.out (by rw [HCM.out]; exact HEE.out.symm)
                  have LD := lead_ok HG.out HSL.out HBP.out
                  have f12 : wn.frozen? ⟨pb, 12, none⟩ = false := (kit.blk P5.blk).2.1 12
                  have x12 : wn.cell? ⟨pb, 12, none⟩ = some (.bool M.leads) := (kit.blk P5.blk).1 12
                  have f40 : wn.frozen? ⟨pb, 40, none⟩ = false := (kit.blk P5.blk).2.1 40
                  have x40 : wn.cell? ⟨pb, 40, none⟩ = some (.int .i64 M.taken) := (kit.blk P5.blk).1 40
                  have hpz5 := (kit.blk P5.blk).2.2
                  have HP5 := Lib.hid P5
                  have HF5 := Lib.hid F05
                  have HT5 := Lib.hid T5
                  have HES := Lib.hid hes
                  have HEL := Lib.hid hEL
                  have HLD := Lib.hid LD
                  clear P5 F5 T5 hes F05 hEL LD x1 LC LO HST
                  go_upto_region 24 with fail
                  obtain ⟨w6, hw6⟩ : ∃ w6 : World, w6 = (wn.setCell ⟨pb, 12, none⟩ (.bool true)).setCell ⟨pb, 40, none⟩ (.int .i64 0) := ⟨_, rfl⟩
                  rw [← hw6]
                  obtain ⟨O6a, P6a, F6a⟩ := peer_set (k := 12) (v := .bool true) (M' := { M with leads := true }) HP5.out (by kernel_rfl) rfl rfl rfl rfl (fun j => rfl) (fun j => rfl)
                  obtain ⟨O6, P6, F6⟩ := peer_set (k := 40) (v := .int .i64 0) (M' := { M with leads := true, taken := 0 }) P6a (by kernel_rfl) rfl rfl rfl rfl (fun j => rfl) (fun j => rfl)
                  rw [← hw6] at P6 F6
                  have HF6 := Lib.hid (F6a.trans F6)
                  have HCO6 := Lib.hid (commit_ok w6 O6 i pb _ P6 HCI.out (by show M.en.l.length ≤ _; have := HCE.out; omega))
                  rw [show (({ M with leads := true, taken := 0 } : PM).index + (({ M with leads := true, taken := 0 } : PM).en.l.length : Int)) = C from HCC.out.symm] at HCO6
                  have HP6 := Lib.hid P6
                  have hmm : (min (max (1024 : Int) 1) 1024) = 1024 := by decide
                  have HMM := Lib.hid hmm
                  obtain ⟨f, hf⟩ : ∃ f : Int, f = min (max (C + 1) 1) 1099511627776 := ⟨_, rfl⟩
                  have HFF := Lib.hid hf
                  have hff : 1 ≤ f ∧ f ≤ 1099511627776 := by have := HC2.out; omega
                  have HF1 := Lib.hid hff
                  clear hw6 P6a F6a P6 F6 x12 f12 x40 f40 hmm hf hff
                  go_upto_region 25 with (first | (go_at_call 12; refine HCO6.out.mono ?_; rintro e w7 ⟨rfl, hb7⟩; have HB7 := Lib.hid hb7; clear hb7) | (go_at_call 50; refine (logq.new_ok w7 (C + 1) 1024).mono ?_; rintro e w8 ⟨rfl, hlog, hb8⟩; rw [HMM.out, ← HFF.out] at hlog; have HLG := Lib.hid hlog; have HB8 := Lib.hid hb8; have P8 := PeerAt.below (PeerAt.below HP6.out HB7.out) hb8; have f37 : w8.frozen? ⟨pb, 37, none⟩ = false := (kit.blk P8.blk).2.1 37; have x37 : w8.cell? ⟨pb, 37, none⟩ = some (optP (M.ob.map Prod.fst)) := (kit.blk P8.blk).1 37; have hpz8 := (kit.blk P8.blk).2.2; clear hlog hb8 P8))
                  obtain ⟨w9, hw9⟩ : ∃ w9 : World, w9 = w8.setCell ⟨pb, 37, none⟩ (.pointer (some ⟨w7.heap.size, 0, none⟩)) := ⟨_, rfl⟩
                  rw [← hw9]
                  have P7 := PeerAt.below HP6.out HB7.out
                  obtain ⟨O9, P9, F9⟩ := peer_newlog P7 HLG.out HB8.out HF1.out.1 HF1.out.2
                  rw [← hw9] at P9 F9
                  have HF9 := Lib.hid ((Fr.of_below (S := Sf i 1) HP6.out.clean HB7.out).trans F9)
                  obtain ⟨nb, hnb⟩ : ∃ nb, nb = w7.heap.size := ⟨_, rfl⟩
                  rw [← hnb] at P9 ⊢
                  have HCO9 := Lib.hid (commit_ok w9 O9 i pb _ P9 HCI.out (by show M.en.l.length ≤ _; have := HCE.out; omega))
                  rw [show (({ M with leads := true, taken := 0, ob := some (nb, ⟨f, []⟩) } : PM).index + (({ M with leads := true, taken := 0, ob := some (nb, ⟨f, []⟩) } : PM).en.l.length : Int)) = C from HCC.out.symm] at HCO9
                  have HP9 := Lib.hid P9
                  have hel : es.length ≤ 1024 := by
                    have h1 := openL_len M.nodes (C + 1) M.dat.proms
                    rw [← HL.out, ← HES.out, List.length_map] at h1
                    exact h1
                  have hw2 : IntKind.i64.wrap (C + 1 + (es.length : Int)) = C + 1 + es.length := IntWalk.i64_in _ (by have := HC2.out; omega)
                  have hS5 : ¬ Sf i 1 (i, 5) := by rintro (e | e) <;> exact absurd (show (5 : Nat) = 1 from congrArg Prod.snd e) (by decide)
                  have T9 : TodoAt w9 O9 (i, 5) ⟨at5, ct5, es⟩ := (HT5.out.fr hS5 HF6.out).fr hS5 HF9.out
                  have HT9 := Lib.hid T9
                  have HEN : Hid (es.length ≤ 1024) := hel
                  have LC9 : Hid (∀ W, Below w9.heap.size w9 W → W.cell? ⟨pb, 38, none⟩ = some (.slice M.td.a M.td.l.length M.td.c) ∧ W.frozen? ⟨pb, 38, none⟩ = false ∧ W.cell? ⟨pb, 39, none⟩ = some (.int .i64 M.next) ∧ W.frozen? ⟨pb, 39, none⟩ = false ∧ pb < W.heap.size) := fun W hb => ⟨(kit.blk (PeerAt.below HP9.out hb).blk).1 38, (kit.blk (PeerAt.below HP9.out hb).blk).2.1 38, (kit.blk (PeerAt.below HP9.out hb).blk).1 39, (kit.blk (PeerAt.below HP9.out hb).blk).2.1 39, (kit.blk (PeerAt.below HP9.out hb).blk).2.2⟩
                  obtain ⟨ne, hne⟩ : ∃ ne, ne = es.length := ⟨_, rfl⟩
                  rw [← hne] at hw2 ⊢
                  have HNE := Lib.hid hne
                  clear hw9 P7 P9 F9 hnb T9 hel hne hS5 f37 x37 hpz8
                  go_upto_region 26 with (go_at_call 12; refine HCO9.out.mono ?_; rintro e w10 ⟨rfl, hb10⟩; have HB10 := Lib.hid hb10; obtain ⟨x38, f38, x39, f39, pz10⟩ := LC9.out w10 hb10; clear hb10)
                  obtain ⟨w11, hw11⟩ : ∃ w11 : World, w11 = (w10.setCell ⟨pb, 38, none⟩ (.slice at5 ne ct5)).setCell ⟨pb, 39, none⟩ (.int .i64 (C + 1 + (ne : Int))) := ⟨_, rfl⟩
                  rw [← hw11]
                  obtain ⟨O11a, P11a, F11a⟩ := peer_td (s := ⟨at5, ct5, es⟩) (PeerAt.below HP9.out HB10.out) (HT9.out.fr (S := fun _ => False) (fun x => x) (Fr.of_below HP9.out.clean HB10.out))
                  obtain ⟨O11, P11, F11⟩ := peer_set (k := 39) (v := .int .i64 (C + 1 + (ne : Int))) (M' := { M with leads := true, taken := 0, ob := some (nb, ⟨f, []⟩), td := ⟨at5, ct5, es⟩, next := C + 1 + (ne : Int) }) P11a (by kernel_rfl) rfl rfl rfl rfl (fun j => rfl) (fun j => rfl)
                  have hsv : (Sl.val (⟨at5, ct5, es⟩ : Sl Et)) = .slice at5 ne ct5 := by rw [HNE.out]; rfl
                  rw [hsv, ← hw11] at P11 F11
                  rw [hsv] at F11a
                  have hd : PM.dat { M with leads := true, taken := 0, ob := some (nb, ⟨f, []⟩), td := ⟨at5, ct5, es⟩, next := C + 1 + (ne : Int) } = M.dat.lead := by
                    have e1 : PM.dat { M with leads := true, taken := 0, ob := some (nb, ⟨f, []⟩), td := ⟨at5, ct5, es⟩, next := C + 1 + (ne : Int) } = ({ M.dat with leads := true, taken := 0, opn := some ⟨f, []⟩, todo := es.map le, next := C + 1 + (ne : Int) } : PD) := rfl
                    have e2 : ne = L.length := by rw [HNE.out, ← HES.out, List.length_map]
                    rw [e1, HES.out, e2, HFF.out, HL.out]
                    unfold PD.lead farI
                    rw [HCM.out]
                    rfl
                  have HPR := Lib.hid (pead.propose_ok w11 O11 i pb _ P11 (by rw [hd]; exact HLD.out) rfl)
                  rw [hd, ← HEL.out] at HPR
                  have HF11 := Lib.hid ((Fr.of_below (S := Sf i 1) HP9.out.clean HB10.out).trans (F11a.trans F11))
                  clear hw11 P11a F11a P11 F11 hd x38 f38 x39 f39 pz10
                  go_wp2_with (go_at_call 16; refine HPR.out.mono ?_; rintro e w12 ⟨rfl, M12, hd12, hB12⟩; have HD12 := Lib.hid hd12; have HB12 := Lib.hid hB12; clear hd12 hB12)
                  obtain ⟨O12, P12, F12⟩ := HB12.out
                  refine bodyPost_end (v := .tuple #[]) (by simp [results, Tryz.results24, go_sem]) rfl ⟨rfl, M12, HD12.out, O12, P12, HF5.out.trans ((HF6.out.mono sf_mine).trans ((HF9.out.mono sf_mine).trans ((HF11.out.mono sf_mine).trans F12)))⟩
                · have t1 : (E != 0) = true := by simpa using h0
                  have HX : Hid (M.dat.elect = M.dat) := elect_err HC.out HE.out HBD.out (by rw [HCM.out]; show openE M.nodes (C + 1) M.dat.proms ≠ 0; rw [← HEE.out]; exact h0)
                  have HP5 := Lib.hid P5
                  have HF5 := Lib.hid F05
                  clear P5 F5 T5 hes F05 h0
                  go_wp2_with fail
                  refine bodyPost_end (v := .tuple #[]) (by simp [results, Tryz.results24, go_sem]) rfl ⟨rfl, M, HX.out.symm, O5, HP5.out, HF5.out⟩
          · have t1 : ((bh : Int) != 0) = true := by simpa using h0
            have HX : Hid (M.dat.elect = M.dat.ask bh) := by
              have := elect_ask HC.out HE.out (by rw [HBD.out]; exact h0)
              rw [HBD.out] at this; exact this
            have HAS : Hid (∀ w3, Below w1.heap.size w1 w3 → Calls Tryz.prog 48 #[.pointer (some ⟨pb, 0, none⟩), .int .i64 (bh : Int)] w3 fun e w' => e = .returned (.tuple #[]) ∧ ∃ (a : Option Addr) (c : Nat), Behind w3 O i pb (Mine i) w' { M with lt := ⟨a, c, M.lt.l ++ [askL M (bh : Int)]⟩ }) := fun w3 hb => ask_ok w3 O i pb M (bh : Int) (PeerAt.below HP1.out hb) HCI.out HCE.out HLT.out
            clear h0
            go_wp2_with (first | (go_at_call 46; refine HEN.out.mono ?_; rintro e w2 ⟨rfl, hb2⟩; have HB2 := Lib.hid hb2; clear hb2) | (go_at_call 47; refine (HBH.out w2 HB2.out).mono ?_; rintro e w3 ⟨rfl, hb3⟩; have HB3 := Lib.hid hb3; clear hb3) | (go_at_call 48; refine (HAS.out w3 (below_step HB2.out HB3.out)).mono ?_; rintro e w4 ⟨rfl, a4, c4, hB4⟩; have HB4 := Lib.hid hB4; clear hB4))
            obtain ⟨O4, P4, F4⟩ := HB4.out
            refine bodyPost_end (v := .tuple #[]) (by simp [results, Tryz.results24, go_sem]) rfl ⟨rfl, _, (ask_dat M (bh : Int) a4 c4).trans HX.out.symm, O4, P4, HF1.out.trans ((Fr.of_below HP1.out.clean (below_step HB2.out HB3.out)).trans F4)⟩
end Go.Proofs.YtcaakiaenfkeaaaGreat.peel
