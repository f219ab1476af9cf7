/-
  What a leader has open, as it lies.
-/
import Derived.Test.YtcaakiaenfkeaaaGreatN06
import Derived.Test.YtcaakiaenfkeaaaGreatN07
import Derived.Test.YtcaakiaenfkeaaaGreatN01
import Derived.Laws.OwnMore
import Derived.Deep.RegionLaw
import Derived.Deep.RegionHeld3
import Derived.Deep.QuietTactic
import Derived.BigQuiet
namespace Go.Proofs.YtcaakiaenfkeaaaGreat.peb
open Go.ChangeShapes Go.WideShapes Go.ChangeAt Go.RowKit
open Go.Proofs.YtcaakiaenfkeaaaGreat.kit Go.Proofs.YtcaakiaenfkeaaaGreat.byt Go.Proofs.YtcaakiaenfkeaaaGreat.own Go.Proofs.YtcaakiaenfkeaaaGreat.accd Go.Proofs.YtcaakiaenfkeaaaGreat.chd Go.Proofs.YtcaakiaenfkeaaaGreat.che Go.Proofs.YtcaakiaenfkeaaaGreat.ownr Go.Proofs.YtcaakiaenfkeaaaGreat.pep
open Go.Proofs.YtcaakiaenfkeaaaGreat.logq (LogAt RowQ KeepQ Fit El flat)
set_option linter.unusedVariables false
set_option linter.unusedSimpArgs false

def nints (l : List Int) : List Value := l.map (Value.int .i64)
/-- Numbers that nobody writes. -/
structure RoI (w : World) (s : Sl Int) : Prop where
  nil : s.a = none → s.l.length = 0 ∧ s.c = 0
  len : s.l.length ≤ 140737488355328
  lie : Lie w s.a (nints s.l)
  blk : ∀ g off, s.a = some ⟨g, off, none⟩ → ∃ cs, w.heap[g]? = some (.cells cs 3 (0, 0))
theorem RoI.kept {w w' : World} {s : Sl Int} (h : RoI w s) (hs : w.heap.size ≤ w'.heap.size) (hk : Kept Still w w') : RoI w' s :=
  ⟨h.nil, h.len, lie_same h.lie hs (fun g off hg => by obtain ⟨cs, hc⟩ := h.blk g off hg; rw [hc]; exact hk g cs _ (.inr rfl) hc), fun g off hg => by obtain ⟨cs, hc⟩ := h.blk g off hg; exact ⟨cs, hk g cs _ (.inr rfl) hc⟩⟩
theorem RoI.fr {S : Tag → Prop} {w w' : World} {O O' : Owners} {s : Sl Int} (h : RoI w s) (f : Fr S w O w' O') : RoI w' s := h.kept f.size f.byt
structure LogM where
  first : Int
  cs : List ((Sl Nat × Sl Int) × Bool)
def rawE (x : Sl Nat × Sl Int) : El := ((x.1.a, x.1.l.length, x.1.c), (x.2.a, x.2.l.length, x.2.c))
def rawC (x : (Sl Nat × Sl Int) × Bool) : El × Bool := (rawE x.1, x.2)
def LogM.dat (L : LogM) : Ol := ⟨L.first, L.cs.map fun x => if x.2 then some (x.1.1.l, x.1.2.l) else none⟩
structure LogOk (w : World) (O : Owners) (t : Tag) (b : Nat) (L : LogM) : Prop where
  log : LogAt w 0 b L.first 1024 (L.cs.map rawC)
  tag : O b = t
  row : RowQ w b (fun g => O g = t)
  fit : Fit L.first 1024 (L.cs.map rawC)
  val : ∀ x ∈ L.cs, x.2 = true → RoB w x.1.1 ∧ RoI w x.1.2
theorem log_row {w : World} {b : Nat} {f m : Int} {cs : List (El × Bool)} (h : LogAt w 0 b f m cs) : ∃ a n c, w.cell? ⟨b, 2, none⟩ = some (.slice a n c) ∧ b < w.heap.size ∧ ∀ g, a = some ⟨g, 0, none⟩ → g < w.heap.size := by
  obtain ⟨_, a, c, h1, h2⟩ := h
  exact ⟨a, _, c, (blk3 h1).2.2.1, (blk3 h1).2.2.2.2.2.2, fun g hg => (own_from h2 g hg).2⟩
theorem LogOk.fr {S : Tag → Prop} {w w' : World} {O O' : Owners} {t : Tag} {b : Nat} {L : LogM} (h : LogOk w O t b L) (hS : ¬ S t) (f : Fr S w O w' O') : LogOk w' O' t b L := by
  obtain ⟨hl, ht, hr, hf, hv⟩ := h
  have hl0 := hl
  obtain ⟨h0, a, c, h1, h2⟩ := hl
  have hb := (blk3 h1).2.2.2.2.2.2
  have hc2 := (blk3 h1).2.2.1
  have htag : ∀ g o, a = some ⟨g, o, none⟩ → O g = t := fun g o hg => hr g o _ _ (by rw [hc2, hg])
  have h1' : w'.heap[b]? = w.heap[b]? := f.same b hb (by rw [ht]; exact hS)
  refine ⟨⟨h0, a, c, h1'.trans h1, own_kept h2 (fun g hg => f.same g (own_from h2 g hg).2 (by rw [htag g 0 hg]; exact hS))⟩, (f.own b hb).trans ht, fun g o n c hc => ?_, hf, fun x hx hb2 => ⟨(hv x hx hb2).1.fr f, (hv x hx hb2).2.fr f⟩⟩
  rw [World.cell?_of_block (a := ⟨b, 2, none⟩) h1', hc2] at hc
  simp only [Option.some.injEq, Value.slice.injEq] at hc
  obtain ⟨rfl, _⟩ := hc
  obtain rfl := logq.own_at h2 g o rfl
  exact (f.own g (own_from h2 g rfl).2).trans (htag g 0 rfl)
end Go.Proofs.YtcaakiaenfkeaaaGreat.peb
/-
  A member in memory: which cells, which rows, whose they are (tags (i, f): i the member, f the part).
-/
namespace Go.Proofs.YtcaakiaenfkeaaaGreat.pem
open Go.ChangeShapes Go.WideShapes Go.ChangeAt Go.RowKit
open Go.Proofs.YtcaakiaenfkeaaaGreat.kit Go.Proofs.YtcaakiaenfkeaaaGreat.mapkit Go.Proofs.YtcaakiaenfkeaaaGreat.byt Go.Proofs.YtcaakiaenfkeaaaGreat.own Go.Proofs.YtcaakiaenfkeaaaGreat.accd Go.Proofs.YtcaakiaenfkeaaaGreat.accb Go.Proofs.YtcaakiaenfkeaaaGreat.acce Go.Proofs.YtcaakiaenfkeaaaGreat.chd Go.Proofs.YtcaakiaenfkeaaaGreat.che Go.Proofs.YtcaakiaenfkeaaaGreat.ownr Go.Proofs.YtcaakiaenfkeaaaGreat.pep Go.Proofs.YtcaakiaenfkeaaaGreat.peb
set_option linter.unusedVariables false
set_option linter.unusedSimpArgs false
set_option maxHeartbeats 1000000
set_option maxRecDepth 100000

/-- A note, a letter as they lie. -/
structure NtM where
  kind : Int
  b1 : Int
  b2 : Int
  v : Vt
  e : Et
def NtM.cells (n : NtM) : List Value := [.int .i64 n.kind, .int .i64 0, .int .i64 n.b1, .int .i64 n.b2, .int .i64 n.v.s, .int .i64 n.v.r, .int .i64 n.v.n, .slice n.v.a n.v.l.length n.v.c, .int .i64 n.e.s, .slice n.e.a n.e.l.length n.e.c, .int .i64 0, .string (ByteArray.mk #[]), .int .i64 0, .int .i64 0, .int .i64 0, .int .i64 0]
theorem ncells_len (n : NtM) : n.cells.length = 16 := rfl
def NtM.dat (n : NtM) : Nt := ⟨n.kind, (n.b1, n.b2), lv n.v, le n.e⟩
structure LtM where
  kind : Int
  fr : Int
  dst : Int
  b1 : Int
  b2 : Int
  slot : Int
  commit : Int
  vs : Sl Vt
  es : Sl Et
  at_ : Int
  of_ : Int
  sum : Nat
  d : Sl Nat
def LtM.cells (x : LtM) : List Value := [.int .i64 x.kind, .int .i64 x.fr, .int .i64 x.dst, .int .i64 x.b1, .int .i64 x.b2, .int .i64 x.slot, .int .i64 x.commit, x.vs.val, x.es.val, .int .i64 x.at_, .int .i64 x.of_, .int .u32 x.sum, x.d.val]
theorem lcells_len (x : LtM) : x.cells.length = 13 := rfl
def LtM.dat (x : LtM) : Lt := ⟨x.kind, x.fr, x.dst, (x.b1, x.b2), x.slot, x.commit, x.vs.l.map lv, x.es.l.map le, ⟨x.at_, x.of_, x.sum, x.d.l⟩⟩
/-- What a candidate has heard of a member, as it lies. -/
structure PmM where
  done : Bool
  fr : Int
  commit : Int
  vs : Sl Vt
def PmM.dat (p : PmM) : Pm := ⟨p.done, p.fr, p.commit, p.vs.l.map lv⟩
/-- A member as it lies. -/
structure PM where
  node : Int
  nodes : Int
  ab : Nat
  mb : Nat
  A : AS
  s1 : Int
  s2 : Int
  h1 : Int
  h2 : Int
  index : Int
  im : Sl Nat
  en : Sl Et
  o1 : Int
  o2 : Int
  leads : Bool
  pr : Nat → PmM
  ob : Option (Nat × LogM)
  td : Sl Et
  next : Int
  taken : Int
  pc : Nat → Int × Option BoxM
  nt : Sl NtM
  lt : Sl LtM
  ch : Sl Et
  ri : Int
  rm : Sl Nat
def optP (o : Option Nat) : Value := .pointer (o.map fun b => ⟨b, 0, none⟩)
def pcells (M : PM) : Array Value :=
  #[.int .i64 M.node, .int .i64 M.nodes, .pointer (some ⟨M.ab, 0, none⟩), .int .i64 M.s1, .int .i64 M.s2, .int .i64 M.h1, .int .i64 M.h2, .int .i64 M.index, M.im.val, M.en.val, .int .i64 M.o1, .int .i64 M.o2, .bool M.leads,
    .bool (M.pr 0).done, .int .i64 (M.pr 0).fr, .int .i64 (M.pr 0).commit, (M.pr 0).vs.val, .bool (M.pr 1).done, .int .i64 (M.pr 1).fr, .int .i64 (M.pr 1).commit, (M.pr 1).vs.val,
    .bool (M.pr 2).done, .int .i64 (M.pr 2).fr, .int .i64 (M.pr 2).commit, (M.pr 2).vs.val, .bool (M.pr 3).done, .int .i64 (M.pr 3).fr, .int .i64 (M.pr 3).commit, (M.pr 3).vs.val,
    .bool (M.pr 4).done, .int .i64 (M.pr 4).fr, .int .i64 (M.pr 4).commit, (M.pr 4).vs.val, .bool (M.pr 5).done, .int .i64 (M.pr 5).fr, .int .i64 (M.pr 5).commit, (M.pr 5).vs.val,
    optP (M.ob.map Prod.fst), M.td.val, .int .i64 M.next, .int .i64 M.taken,
    .int .i64 (M.pc 0).1, optP ((M.pc 0).2.map BoxM.b), .int .i64 (M.pc 1).1, optP ((M.pc 1).2.map BoxM.b), .int .i64 (M.pc 2).1, optP ((M.pc 2).2.map BoxM.b), .int .i64 (M.pc 3).1, optP ((M.pc 3).2.map BoxM.b), .int .i64 (M.pc 4).1, optP ((M.pc 4).2.map BoxM.b), .int .i64 (M.pc 5).1, optP ((M.pc 5).2.map BoxM.b),
    M.nt.val, M.lt.val, M.ch.val, .int .i64 M.ri, M.rm.val]
def PM.dat (M : PM) : PD where
  node := M.node
  nodes := M.nodes
  A := M.A
  seen := (M.s1, M.s2)
  heard := (M.h1, M.h2)
  index := M.index
  image := M.im.l
  entries := M.en.l.map le
  own := (M.o1, M.o2)
  leads := M.leads
  prom := fun j => (M.pr j).dat
  opn := M.ob.map fun x => x.2.dat
  todo := M.td.l.map le
  next := M.next
  taken := M.taken
  parc := fun j => ((M.pc j).1, (M.pc j).2.map BoxM.dat)
  notes := M.nt.l.map NtM.dat
  letters := M.lt.l.map LtM.dat
  chosen := M.ch.l.map le
  rindex := M.ri
  rimage := M.rm.l

/-- A row of entries of one's own, by its tag; what their values say all may read. -/
structure RowEn (w : World) (O : Owners) (t : Tag) (s : Sl Et) : Prop where
  row : Row w O t 47 2 s.a s.c s.l.length (s.l.flatMap Et.cells)
  body : ∀ e ∈ s.l, RoB w ⟨e.a, e.c, e.l⟩
structure RowVn (w : World) (O : Owners) (t : Tag) (s : Sl Vt) : Prop where
  row : Row w O t 45 4 s.a s.c s.l.length (s.l.flatMap Vt.cells)
  body : ∀ v ∈ s.l, RoB w ⟨v.a, v.c, v.l⟩
/-- A letter's parts, which all may read. -/
structure RoL (w : World) (O : Owners) (x : LtM) : Prop where
  vs : RoRow w O x.vs.a x.vs.c 4 (x.vs.l.map Vt.cells)
  vb : ∀ v ∈ x.vs.l, RoB w ⟨v.a, v.c, v.l⟩
  es : RoRow w O x.es.a x.es.c 2 (x.es.l.map Et.cells)
  eb : ∀ e ∈ x.es.l, RoB w ⟨e.a, e.c, e.l⟩
  db : RoB w x.d
structure RoN (w : World) (n : NtM) : Prop where
  v : RoB w ⟨n.v.a, n.v.c, n.v.l⟩
  e : RoB w ⟨n.e.a, n.e.c, n.e.l⟩
/-- A slice that moves on along a block of one's own: what is to be proposed. -/
structure TodoAt (w : World) (O : Owners) (t : Tag) (s : Sl Et) : Prop where
  came : ∃ b off, Came w 2 s.a b off s.l.length s.c (s.l.flatMap Et.cells) ∧ (∀ g o, s.a = some ⟨g, o, none⟩ → O g = t ∧ ∃ cs, w.heap[g]? = some (.cells cs 47 (0, 0)))
  body : ∀ e ∈ s.l, RoB w ⟨e.a, e.c, e.l⟩

/-- The parts of a member, but those in f. -/
structure Parts (w : World) (O : Owners) (i : Nat) (M : PM) (f : Nat → Prop) : Prop where
  acc : ¬ f 2 → AccIs w 0 M.ab M.mb M.A ∧ O M.ab = (i, 2) ∧ O M.mb = (i, 2)
  ent : ¬ f 3 → RowEn w O (i, 3) M.en
  opn : ¬ f 4 → ∀ x, M.ob = some x → LogOk w O (i, 4) x.1 x.2
  tdo : ¬ f 5 → TodoAt w O (i, 5) M.td
  nts : ¬ f 6 → Row w O (i, 6) 51 16 M.nt.a M.nt.c M.nt.l.length (M.nt.l.flatMap NtM.cells) ∧ ∀ n ∈ M.nt.l, RoN w n
  lts : ¬ f 7 → Row w O (i, 7) 84 13 M.lt.a M.lt.c M.lt.l.length (M.lt.l.flatMap LtM.cells) ∧ ∀ x ∈ M.lt.l, RoL w O x
  chs : ¬ f 8 → RowEn w O (i, 8) M.ch
  prm : ∀ j, j < 6 → ¬ f (10 + j) → RowVn w O (i, 10 + j) (M.pr j).vs
  box : ∀ j, j < 6 → ¬ f (20 + j) → ∀ x, (M.pc j).2 = some x → BoxOk w O (i, 20 + j) x
  img : RoB w M.im
  rim : RoB w M.rm
structure PeerAt (w : World) (O : Owners) (i pb : Nat) (M : PM) : Prop where
  clean : ownr.Clean w O
  me : i ≠ 0
  blk : w.heap[pb]? = some (.cells (pcells M) 70 (0, 0))
  tag : O pb = (i, 1)
  parts : Parts w O i M (fun _ => False)

theorem RowEn.fr {S : Tag → Prop} {w w' : World} {O O' : Owners} {t : Tag} {s : Sl Et} (h : RowEn w O t s) (hS : ¬ S t) (f : Fr S w O w' O') : RowEn w' O' t s := ⟨h.row.fr hS f, fun e he => (h.body e he).fr f⟩
theorem RowVn.fr {S : Tag → Prop} {w w' : World} {O O' : Owners} {t : Tag} {s : Sl Vt} (h : RowVn w O t s) (hS : ¬ S t) (f : Fr S w O w' O') : RowVn w' O' t s := ⟨h.row.fr hS f, fun e he => (h.body e he).fr f⟩
theorem RoL.fr {S : Tag → Prop} {w w' : World} {O O' : Owners} {x : LtM} (h : RoL w O x) (hS : ¬ S ro) (f : Fr S w O w' O') : RoL w' O' x := ⟨h.vs.fr hS f, fun v hv => (h.vb v hv).fr f, h.es.fr hS f, fun e he => (h.eb e he).fr f, h.db.fr f⟩
theorem RoN.fr {S : Tag → Prop} {w w' : World} {O O' : Owners} {n : NtM} (h : RoN w n) (f : Fr S w O w' O') : RoN w' n := ⟨h.v.fr f, h.e.fr f⟩
theorem came_same {w w' : World} {size b off len cap : Nat} {a : Option Addr} {xs : List Value} (h : Came w size a b off len cap xs) (hs : w.heap.size ≤ w'.heap.size) (hk : 0 < cap → w'.heap[b]? = w.heap[b]?) : Came w' size a b off len cap xs := by
  have hle := h.le
  have hol := h.oldsLen
  refine ⟨h.le, h.addr, fun hc => Nat.lt_of_lt_of_le (h.lt hc) hs, h.oldsLen, fun j u hu => ?_, fun j hj => ?_⟩
  · have hj : j < xs.length := (List.getElem?_eq_some_iff.1 hu).1
    have hc : 0 < cap := by
      rcases Nat.eq_zero_or_pos len with h0 | h0
      · subst h0; omega
      · omega
    rw [← h.olds j u hu]
    exact World.cell?_of_block (hk hc)
  · have hc : 0 < cap := by
      rcases Nat.eq_zero_or_pos cap with h0 | h0
      · subst h0; simp at hj
      · exact h0
    obtain ⟨h1, h2⟩ := h.spare j hj
    rw [← World.cell?_of_block (a := ⟨b, off + len * size + j, none⟩) (hk hc)] at h1
    rw [← World.frozen?_of_block (a := ⟨b, off + len * size + j, none⟩) (hk hc)] at h2
    exact ⟨h1, h2⟩
theorem TodoAt.fr {S : Tag → Prop} {w w' : World} {O O' : Owners} {t : Tag} {s : Sl Et} (h : TodoAt w O t s) (hS : ¬ S t) (f : Fr S w O w' O') : TodoAt w' O' t s := by
  obtain ⟨b, off, hc, ht⟩ := h.came
  refine ⟨⟨b, off, came_same hc f.size (fun hz => f.same b (hc.lt hz) (by rw [(ht b off (hc.addr hz)).1]; exact hS)), fun g o hg => ?_⟩, fun e he => (h.body e he).fr f⟩
  obtain ⟨h1, cs, h2⟩ := ht g o hg
  exact ⟨(f.own g (kit.blk h2).2.2).trans h1, cs, f.hp h2 (by rw [h1]; exact hS)⟩
theorem acc_fr {S : Tag → Prop} {w w' : World} {O O' : Owners} {b mb : Nat} {A : AS} {t : Tag} (h : AccIs w 0 b mb A ∧ O b = t ∧ O mb = t) (hS : ¬ S t) (f : Fr S w O w' O') : AccIs w' 0 b mb A ∧ O' b = t ∧ O' mb = t := by
  obtain ⟨⟨vs, h, e⟩, h1, h2⟩ := h
  have hb := (kit.blk h.blk).2.2
  obtain ⟨es, cl, hm⟩ := h.map.obj
  have hmz := (Array.getElem?_eq_some_iff.1 hm).1
  refine ⟨⟨vs, ⟨(f.same b hb (by rw [h1]; exact hS)).trans h.blk, h.map.to (f.same mb hmz (by rw [h2]; exact hS)), h.lo, h.ord, h.one, h.rng, h.fit, fun v hv => own_to (h.bodies v hv) f.byt (.inl rfl)⟩, e⟩, (f.own b hb).trans h1, (f.own mb hmz).trans h2⟩
/-- What a call that writes in other blocks leaves of the parts. -/
theorem Parts.fr {S : Tag → Prop} {w w' : World} {O O' : Owners} {i : Nat} {M : PM} {f g : Nat → Prop} (h : Parts w O i M f) (hfg : ∀ k, f k → g k) (hS : ∀ k, ¬ g k → ¬ S (i, k)) (hr : ¬ S ro) (F : Fr S w O w' O') : Parts w' O' i M g where
  acc := fun hn => acc_fr (h.acc (fun hh => hn (hfg _ hh))) (hS _ hn) F
  ent := fun hn => (h.ent (fun hh => hn (hfg _ hh))).fr (hS _ hn) F
  opn := fun hn x hx => (h.opn (fun hh => hn (hfg _ hh)) x hx).fr (hS _ hn) F
  tdo := fun hn => (h.tdo (fun hh => hn (hfg _ hh))).fr (hS _ hn) F
  nts := fun hn => ⟨(h.nts (fun hh => hn (hfg _ hh))).1.fr (hS _ hn) F, fun n hm => ((h.nts (fun hh => hn (hfg _ hh))).2 n hm).fr F⟩
  lts := fun hn => ⟨(h.lts (fun hh => hn (hfg _ hh))).1.fr (hS _ hn) F, fun n hm => ((h.lts (fun hh => hn (hfg _ hh))).2 n hm).fr hr F⟩
  chs := fun hn => (h.chs (fun hh => hn (hfg _ hh))).fr (hS _ hn) F
  prm := fun j hj hn => (h.prm j hj (fun hh => hn (hfg _ hh))).fr (hS _ hn) F
  box := fun j hj hn x hx => (h.box j hj (fun hh => hn (hfg _ hh)) x hx).fr (hS _ hn) F
  img := h.img.fr F
  rim := h.rim.fr F
/-- A call on another's blocks leaves a member as it was. -/
theorem PeerAt.fr {S : Tag → Prop} {w w' : World} {O O' : Owners} {i pb : Nat} {M : PM} (h : PeerAt w O i pb M) (hS : ∀ k, ¬ S (i, k)) (hr : ¬ S ro) (F : Fr S w O w' O') : PeerAt w' O' i pb M :=
  ⟨F.clean, h.me, F.hp h.blk (by rw [h.tag]; exact hS 1), (F.own pb (kit.blk h.blk).2.2).trans h.tag, h.parts.fr (fun _ h => h) (fun k _ => hS k) hr F⟩
end Go.Proofs.YtcaakiaenfkeaaaGreat.pem
/-
  More lemmas of this seat's own, about no program in particular: append as a step of a region that draws its order.
-/
namespace Go.Proofs.YtcaakiaenfkeaaaGreat.kit
open Go.ChangeShapes Go.WideShapes Go.ChangeAt Go.RowKit Go.Joins
set_option linter.unusedVariables false
set_option linter.unusedSimpArgs false

/-- An append to a row of the call's own, of whatever lies in memory (nil too), as one step. -/
theorem step_append {P : Program} {w : World} {ops : Array Oper} {o : Oper} {a : Act} {K : Act → World → Prop} {Q : Exit → Act → World → Prop} {E : Prop}
    (hg : o.guard = none) (s x : Operand) (t : TypeId) (ho : o.op = Op.call { callee := Callee.builtin Builtin.append, args := #[s, x], argTypes := #[t, t] })
    (base : Nat) (e : TypeId) (i : TypeInfo) (z : Value) (size bytes : Nat) (ht : P.underlying t = some (.slice e)) (hi : P.info? e = some i) (hz : i.zero = some z) (hsz : i.size = size) (hby : i.bytes = bytes)
    (hzs : z.cells.size = size) (hpos : 0 < size) (v : Value) (n : Nat) (xs : List Value) (hs : a.eval s = v) (hown : w.ownsRow base e size v n xs)
    (ao : Option Addr) (m c : Nat) (news : List Value) (hx : a.eval x = .slice ao m c) (hnil : ao = none → m = 0 ∧ c = 0) (hlen : news.length = m * size) (hlie : Lie w ao news) (hone : ∀ u ∈ news, u.oneCell' = true)
    (hmax : n + m ≤ maxLen) (hbytes : (n + m) * bytes ≤ 140737488355328) (hbase : base ≤ w.heap.size)
    (h : ∀ (v' : Value) (w' : World), w'.ownsRow base e size v' (n + m) (xs ++ news) → w.grownBy w' v.ownBlock → K (a.put o.dst v') w') :
    if Region.wanted o (yielded ops a.tmps) = true then Oper.wp P o a w K Q else E := by
  have hw : Region.wanted o (yielded ops a.tmps) = true := by simp [Region.wanted, hg]
  rw [if_pos hw]
  cases ao with
  | none =>
    obtain ⟨rfl, rfl⟩ := hnil rfl
    have hn : news = [] := List.length_eq_zero_iff.1 (by omega)
    subst hn
    have hrun := run_append_owned_none (P := P) (w := w) base t o.type e i size ht hi v n xs hown
    unfold Oper.wp
    simp [execOp, ho, resolve, invoke, builtin, hs, hx, hrun, Result.andThen]
    exact h _ _ (by simpa using hown) ⟨rfl, rfl, rfl, Nat.le_refl _, fun _ _ _ => rfl⟩
  | some ad =>
    obtain ⟨v', w', hr, h1, h2, _⟩ := run_append_own (P := P) w base t o.type e i z size bytes ht hi hz hsz hby hzs hpos v n xs hown ad m c news hlen (by
      intro j u hj
      rcases hlie with rfl | ⟨b, off, e1, hb, hc⟩
      · simp at hj
      · simp only [Option.some.injEq] at e1
        subst e1
        have hjl : j < news.length := (List.getElem?_eq_some_iff.1 hj).1
        have := hc j hjl
        rw [hj] at this
        unfold Addr.add
        split
        · next h0 => subst h0; simpa using this
        · exact this) hone hmax hbytes hbase
    unfold Oper.wp execOp
    simp only [ho, resolve, invoke, builtin, Sem.run_bind, Sem.run_pure, Result.andThen_ok, List.map_toArray, List.map_cons, List.map_nil, hs, hx, hr]
    exact h v' w' h1 h2
end Go.Proofs.YtcaakiaenfkeaaaGreat.kit
/-
  A member's rows that grow: note, tell; own; Commit.
-/
namespace Go.Proofs.YtcaakiaenfkeaaaGreat.pen
open Go.ChangeShapes Go.WideShapes Go.ChangeAt Go.RowKit
open Go.Proofs.YtcaakiaenfkeaaaGreat.kit Go.Proofs.YtcaakiaenfkeaaaGreat.mapkit Go.Proofs.YtcaakiaenfkeaaaGreat.byt Go.Proofs.YtcaakiaenfkeaaaGreat.own Go.Proofs.YtcaakiaenfkeaaaGreat.accd Go.Proofs.YtcaakiaenfkeaaaGreat.accb Go.Proofs.YtcaakiaenfkeaaaGreat.acce Go.Proofs.YtcaakiaenfkeaaaGreat.chd Go.Proofs.YtcaakiaenfkeaaaGreat.che Go.Proofs.YtcaakiaenfkeaaaGreat.ownr Go.Proofs.YtcaakiaenfkeaaaGreat.pep Go.Proofs.YtcaakiaenfkeaaaGreat.peb Go.Proofs.YtcaakiaenfkeaaaGreat.pem
set_option linter.unusedVariables false
set_option linter.unusedSimpArgs false
set_option maxHeartbeats 4000000
set_option maxRecDepth 100000

/-- The tags that an append to part f writes: the member's own block, and that part's. -/
def Sf (i f : Nat) (t : Tag) : Prop := t = (i, 1) ∨ t = (i, f)
theorem sf_ro {i f : Nat} (h : i ≠ 0) : ¬ Sf i f ro := by
  rintro (e | e) <;> exact h (congrArg Prod.fst e).symm
/-- An append to a part's row, and the store of the new slice. -/
theorem peer_app {w W2 w5 : World} {O : Owners} {i pb f k size n c c5 : Nat} {M : PM} {T : TypeId} {a a5 : Option Addr} {xs ys : List Value} (h : PeerAt w O i pb M) (hb : Below w.heap.size w W2)
    (hr : Row w O (i, f) T size a c n xs) (hT : ¬ Still T) (hTp : T ≠ 70) (hk : k < 58)
    (hown : w5.ownsRow 0 T size (.slice a5 (n + 1) c5) (n + 1) (xs ++ ys)) (hg : W2.grownBy w5 (Value.slice a n c).ownBlock)
    (hat : ∀ k, (Value.slice a5 (n + 1) c5).ownBlock = some k → (Value.slice a n c).ownBlock = some k ∨ W2.heap.size ≤ k) :
    (∃ O2, Row (w5.setCell ⟨pb, k, none⟩ (.slice a5 (n + 1) c5)) O2 (i, f) T size a5 c5 (n + 1) (xs ++ ys) ∧ Fr (Sf i f) w O (w5.setCell ⟨pb, k, none⟩ (.slice a5 (n + 1) c5)) O2 ∧
      (w5.setCell ⟨pb, k, none⟩ (.slice a5 (n + 1) c5)).heap[pb]? = some (.cells ((pcells M).setIfInBounds k (.slice a5 (n + 1) c5)) 70 (0, 0)) ∧ O2 pb = (i, 1) ∧ Parts (w5.setCell ⟨pb, k, none⟩ (.slice a5 (n + 1) c5)) O2 i M (fun j => j = 1 ∨ j = f)) ∧
      (∃ v, w5.cell? ⟨pb, k, none⟩ = some v) ∧ w5.frozen? ⟨pb, k, none⟩ = false := by
  have F0 : Fr (fun _ => False) w O W2 O := Fr.of_below h.clean hb
  have F1 : Fr (Sf i f) w O W2 O := Fr.of_below h.clean hb
  have hr2 := hr.fr (fun x => x) F0
  obtain ⟨O2, hR, F2⟩ := hr2.app F1 (.inr rfl) hT (by omega) hown hg hat
  have hpz := (kit.blk h.blk).2.2
  have hp2 := hp_step h.blk hb
  have h5 : w5.heap[pb]? = some (.cells (pcells M) 70 (0, 0)) := (hg.block pb (kit.blk hp2).2.2 (fun e => own_ne hr2.row hp2 (fun e2 => hTp e2.symm) pb (own_block hr2.row pb e.symm) rfl)).trans hp2
  have hTP : ¬ Still 70 := by rintro (e | e) <;> exact absurd e (by decide)
  have F3 := F2.set (p := ⟨pb, k, none⟩) (.inr (.inl h.tag)) h5 hTP (.slice a5 (n + 1) c5)
  refine ⟨⟨O2, ⟨own_kept hR.row (fun g hgg => hp_set_ne (own_ne hR.row h5 (fun e2 => hTp e2.symm) g hgg)), hR.tag⟩, F3, hp_set h5 k _, (F3.own pb hpz).trans h.tag, ?_⟩, ?_, (kit.blk h5).2.1 k⟩
  · refine h.parts.fr (fun _ hf => hf.elim) (fun j hj => ?_) (sf_ro h.me) F3
    rintro (e | e)
    · exact hj (.inl (congrArg Prod.snd e))
    · exact hj (.inr (congrArg Prod.snd e))
  · rw [(kit.blk h5).1 k]
    have : k < (pcells M).size := by show k < 58; exact hk
    exact ⟨_, Array.getElem?_eq_getElem this⟩

theorem infoNote : (Tryz.prog.info? 51).map (fun i => (i.zero, i.size, i.bytes)) = some (some (.agg #[.int .i64 0, .int .i64 0, .int .i64 0, .int .i64 0, .int .i64 0, .int .i64 0, .int .i64 0, .slice none 0 0, .int .i64 0, .slice none 0 0, .int .i64 0, .string (ByteArray.mk #[]), .int .i64 0, .int .i64 0, .int .i64 0, .int .i64 0]), 16, 168) := by kernel_rfl
theorem lie_list (w : World) (T : TypeId) (l : List Value) : Lie (w.alloc (.cells l.toArray T)) (some ⟨w.heap.size, 0, none⟩) l := by
  by_cases h : l = []
  · exact .inl h
  · refine .inr ⟨w.heap.size, 0, rfl, by rw [size_new]; omega, fun i hi => ?_⟩
    rw [(kit.blk (hp_alloc_new w _)).1, Nat.zero_add]
    simp
theorem ncells_one (n : NtM) : ∀ u ∈ n.cells, u.oneCell' = true := by
  intro u hu
  simp only [NtM.cells, List.mem_cons, List.not_mem_nil, or_false] at hu
  rcases hu with rfl | rfl | rfl | rfl | rfl | rfl | rfl | rfl | rfl | rfl | rfl | rfl | rfl | rfl | rfl | rfl <;> rfl
def nval (n : NtM) : Value := .agg #[.int .i64 n.kind, .int .i64 0, .int .i64 n.b1, .int .i64 n.b2, .int .i64 n.v.s, .int .i64 n.v.r, .int .i64 n.v.n, .slice n.v.a n.v.l.length n.v.c, .int .i64 n.e.s, .slice n.e.a n.e.l.length n.e.c, .int .i64 0, .string (ByteArray.mk #[]), .int .i64 0, .int .i64 0, .int .i64 0, .int .i64 0]
/-- What a call on a member leaves: the member M', and what it may have written. -/
def Behind (w : World) (O : Owners) (i pb : Nat) (S : Tag → Prop) (w' : World) (M' : PM) : Prop := ∃ O', PeerAt w' O' i pb M' ∧ Fr S w O w' O'

theorem note_fin {w W2 w5 : World} {O : Owners} {i pb c5 : Nat} {M : PM} {a5 : Option Addr} {n : NtM} (h : PeerAt w O i pb M) (hn : RoN w n) (hb : Below w.heap.size w W2)
    (hown : w5.ownsRow 0 51 16 (.slice a5 (M.nt.l.length + 1) c5) (M.nt.l.length + 1) (M.nt.l.flatMap NtM.cells ++ n.cells)) (hg : W2.grownBy w5 (Value.slice M.nt.a M.nt.l.length M.nt.c).ownBlock)
    (hat : ∀ k, (Value.slice a5 (M.nt.l.length + 1) c5).ownBlock = some k → (Value.slice M.nt.a M.nt.l.length M.nt.c).ownBlock = some k ∨ W2.heap.size ≤ k) :
    Behind w O i pb (Sf i 6) (w5.setCell ⟨pb, 53, none⟩ (.slice a5 (M.nt.l.length + 1) c5)) { M with nt := ⟨a5, c5, M.nt.l ++ [n]⟩ } ∧ (∃ v, w5.cell? ⟨pb, 53, none⟩ = some v) ∧ w5.frozen? ⟨pb, 53, none⟩ = false := by
  obtain ⟨hr, he⟩ := h.parts.nts (fun x => x)
  obtain ⟨⟨O2, hR, F, hblk, htag, hP⟩, h2, h3⟩ := peer_app (k := 53) h hb hr (by rintro (e | e) <;> exact absurd e (by decide)) (by decide) (by decide) hown hg hat
  refine ⟨⟨O2, ⟨F.clean, h.me, ?_, htag, ?_⟩, F⟩, h2, h3⟩
  · rw [hblk]
    have e : (pcells M).setIfInBounds 53 (.slice a5 (M.nt.l.length + 1) c5) = pcells { M with nt := ⟨a5, c5, M.nt.l ++ [n]⟩ } := by
      simp only [pcells, Sl.val, List.length_append, List.length_singleton]; rfl
    rw [e]
  · exact {
      acc := fun _ => hP.acc (by decide)
      ent := fun _ => hP.ent (by decide)
      opn := fun _ => hP.opn (by decide)
      tdo := fun _ => hP.tdo (by decide)
      nts := fun _ => ⟨by
        show Row _ O2 (i, 6) _ 16 a5 c5 (M.nt.l ++ [n]).length ((M.nt.l ++ [n]).flatMap NtM.cells)
        rw [List.length_append, List.length_singleton, List.flatMap_append, List.flatMap_singleton]; exact hR, fun x hx => by
        rcases List.mem_append.1 hx with hx | hx
        · exact (he x hx).fr F
        · rw [List.mem_singleton.1 hx]; exact hn.fr F⟩
      lts := fun _ => hP.lts (by decide)
      chs := fun _ => hP.chs (by decide)
      prm := fun j hj _ => hP.prm j hj (by omega)
      box := fun j hj _ => hP.box j hj (by omega)
      img := hP.img
      rim := hP.rim }
theorem note_ok (w : World) (O : Owners) (i pb : Nat) (M : PM) (n : NtM) (h : PeerAt w O i pb M) (hn : RoN w n) (hl : M.nt.l.length ≤ 1000000000) :
    Calls Tryz.prog 22 #[.pointer (some ⟨pb, 0, none⟩), nval n] w fun e w' => e = .returned (.tuple #[]) ∧ ∃ c a, Behind w O i pb (Sf i 6) w' { M with nt := ⟨a, c, M.nt.l ++ [n]⟩ } := by
  obtain ⟨j0, hj, hy0, hy1, hy2⟩ := info_parts infoNote
  have hpz := (kit.blk h.blk).2.2
  have x53 : w.cell? ⟨pb, 53, none⟩ = some (.slice M.nt.a M.nt.l.length M.nt.c) := (kit.blk h.blk).1 53
  obtain ⟨w1, hw1⟩ : ∃ w1, w1 = w.alloc (.cells n.cells.toArray 51) := ⟨_, rfl⟩
  have hb1 : Below w.heap.size w w1 := by rw [hw1]; exact below_new1 _ _
  have hn1 : w1.heap[w.heap.size]? = some (.cells n.cells.toArray 51 (0, 0)) := by rw [hw1]; exact hp_alloc_new _ _
  have hs1 : w1.heap.size = w.heap.size + 1 := by rw [hw1, size_new]
  have HFIN := Lib.hid (fun (w5 : World) (a5 : Option Addr) (c5 : Nat) => note_fin (w5 := w5) (a5 := a5) (c5 := c5) (n := n) (W2 := w1.drew.alloc (.cells n.cells.toArray 51)) h hn (below_step hb1 (below_step (below_drewN (Below.refl _ w1) 1) (below_new1 w1.drew _))))
  have HO := Lib.hid (own_below (own_below (h.parts.nts (fun x => x)).1.row hb1) (below_step (below_drewN (Below.refl _ w1) 1) (below_new1 w1.drew (.cells n.cells.toArray 51))))
  have HLI := Lib.hid (lie_list w1.drew 51 n.cells)
  have y53 := cell_step x53 hb1
  have e3 : ∀ o : Obj, (w1.alloc o).cell? ⟨pb, 53, none⟩ = some (.slice M.nt.a M.nt.l.length M.nt.c) := fun o => cell_step y53 (below_new1 _ o)
  have hq : ∀ k, w1.cell? ⟨w.heap.size, k, none⟩ = n.cells[k]? := fun k => by rw [(kit.blk hn1).1 k]; simp
  have q0 : w1.cell? ⟨w.heap.size, 0, none⟩ = some (.int .i64 n.kind) := hq 0
  have q1 : w1.cell? ⟨w.heap.size, 1, none⟩ = some (.int .i64 0) := hq 1
  have q2 : w1.cell? ⟨w.heap.size, 2, none⟩ = some (.int .i64 n.b1) := hq 2
  have q3 : w1.cell? ⟨w.heap.size, 3, none⟩ = some (.int .i64 n.b2) := hq 3
  have q4 : w1.cell? ⟨w.heap.size, 4, none⟩ = some (.int .i64 n.v.s) := hq 4
  have q5 : w1.cell? ⟨w.heap.size, 5, none⟩ = some (.int .i64 n.v.r) := hq 5
  have q6 : w1.cell? ⟨w.heap.size, 6, none⟩ = some (.int .i64 n.v.n) := hq 6
  have q7 : w1.cell? ⟨w.heap.size, 7, none⟩ = some (.slice n.v.a n.v.l.length n.v.c) := hq 7
  have q8 : w1.cell? ⟨w.heap.size, 8, none⟩ = some (.int .i64 n.e.s) := hq 8
  have q9 : w1.cell? ⟨w.heap.size, 9, none⟩ = some (.slice n.e.a n.e.l.length n.e.c) := hq 9
  have q10 : w1.cell? ⟨w.heap.size, 10, none⟩ = some (.int .i64 0) := hq 10
  have q11 : w1.cell? ⟨w.heap.size, 11, none⟩ = some (.string (ByteArray.mk #[])) := hq 11
  have q12 : w1.cell? ⟨w.heap.size, 12, none⟩ = some (.int .i64 0) := hq 12
  have q13 : w1.cell? ⟨w.heap.size, 13, none⟩ = some (.int .i64 0) := hq 13
  have q14 : w1.cell? ⟨w.heap.size, 14, none⟩ = some (.int .i64 0) := hq 14
  have q15 : w1.cell? ⟨w.heap.size, 15, none⟩ = some (.int .i64 0) := hq 15
  have HW1 := Lib.hid hw1
  have HS1 := Lib.hid hs1
  clear h hn hw1 hb1 hn1 hq x53 hs1
  simp only [nval]
  go_enter Tryz.func22, Tryz.ntmps22
  go_upto_region 1 with fail
  simp only [NtM.cells] at HW1
  rw [← HW1.out]
  go_region_law (refine step_append_at rfl (.tmp 9) (.tmp 11) 37 rfl 0 51 j0 _ 16 168 Tryz.underlying37 hj hy0 hy1 hy2 rfl (by decide) (.slice M.nt.a M.nt.l.length M.nt.c) M.nt.l.length (M.nt.l.flatMap NtM.cells) rfl HO.out ⟨w1.heap.size, 0, none⟩ 1 1 n.cells rfl rfl HLI.out (ncells_one n) (by unfold maxLen; omega) (by omega) (Nat.zero_le _) ?_; intro v5 w5 hown hgr hat; obtain ⟨a5, c5, rfl⟩ := own_shape hown; obtain ⟨hF1, ⟨vo, hF3⟩, hF4⟩ := HFIN.out w5 a5 c5 hown hgr hat; have HF := Lib.hid hF1; clear hF1 hown hgr hat)
  all_goals
    go_wp2_with fail
    exact bodyPost_end (v := .tuple #[]) (by simp [results, Tryz.results22, go_sem]) rfl ⟨rfl, _, _, HF.out⟩

theorem infoLetter : (Tryz.prog.info? 84).map (fun i => (i.zero, i.size, i.bytes)) = some (some (.agg #[.int .i64 0, .int .i64 0, .int .i64 0, .int .i64 0, .int .i64 0, .int .i64 0, .int .i64 0, .slice none 0 0, .slice none 0 0, .int .i64 0, .int .i64 0, .int .u32 0, .slice none 0 0]), 13, 152) := by kernel_rfl
theorem lcells_one (x : LtM) : ∀ u ∈ x.cells, u.oneCell' = true := by
  intro u hu
  simp only [LtM.cells, Sl.val, List.mem_cons, List.not_mem_nil, or_false] at hu
  rcases hu with rfl | rfl | rfl | rfl | rfl | rfl | rfl | rfl | rfl | rfl | rfl | rfl | rfl <;> rfl
def lval (x : LtM) : Value := .agg #[.int .i64 x.kind, .int .i64 x.fr, .int .i64 x.dst, .int .i64 x.b1, .int .i64 x.b2, .int .i64 x.slot, .int .i64 x.commit, .slice x.vs.a x.vs.l.length x.vs.c, .slice x.es.a x.es.l.length x.es.c, .int .i64 x.at_, .int .i64 x.of_, .int .u32 x.sum, .slice x.d.a x.d.l.length x.d.c]
theorem tell_fin {w W2 w5 : World} {O : Owners} {i pb c5 : Nat} {M : PM} {a5 : Option Addr} {x : LtM} (h : PeerAt w O i pb M) (hx : RoL w O x) (hb : Below w.heap.size w W2)
    (hown : w5.ownsRow 0 84 13 (.slice a5 (M.lt.l.length + 1) c5) (M.lt.l.length + 1) (M.lt.l.flatMap LtM.cells ++ x.cells)) (hg : W2.grownBy w5 (Value.slice M.lt.a M.lt.l.length M.lt.c).ownBlock)
    (hat : ∀ k, (Value.slice a5 (M.lt.l.length + 1) c5).ownBlock = some k → (Value.slice M.lt.a M.lt.l.length M.lt.c).ownBlock = some k ∨ W2.heap.size ≤ k) :
    Behind w O i pb (Sf i 7) (w5.setCell ⟨pb, 54, none⟩ (.slice a5 (M.lt.l.length + 1) c5)) { M with lt := ⟨a5, c5, M.lt.l ++ [x]⟩ } ∧ (∃ v, w5.cell? ⟨pb, 54, none⟩ = some v) ∧ w5.frozen? ⟨pb, 54, none⟩ = false := by
  obtain ⟨hr, he⟩ := h.parts.lts (fun x => x)
  obtain ⟨⟨O2, hR, F, hblk, htag, hP⟩, h2, h3⟩ := peer_app (k := 54) h hb hr (by rintro (e | e) <;> exact absurd e (by decide)) (by decide) (by decide) hown hg hat
  refine ⟨⟨O2, ⟨F.clean, h.me, ?_, htag, ?_⟩, F⟩, h2, h3⟩
  · rw [hblk]
    have e : (pcells M).setIfInBounds 54 (.slice a5 (M.lt.l.length + 1) c5) = pcells { M with lt := ⟨a5, c5, M.lt.l ++ [x]⟩ } := by
      simp only [pcells, Sl.val, List.length_append, List.length_singleton]; rfl
    rw [e]
  · exact {
      acc := fun _ => hP.acc (by decide)
      ent := fun _ => hP.ent (by decide)
      opn := fun _ => hP.opn (by decide)
      tdo := fun _ => hP.tdo (by decide)
      nts := fun _ => hP.nts (by decide)
      lts := fun _ => ⟨by
        show Row _ O2 (i, 7) _ 13 a5 c5 (M.lt.l ++ [x]).length ((M.lt.l ++ [x]).flatMap LtM.cells)
        rw [List.length_append, List.length_singleton, List.flatMap_append, List.flatMap_singleton]; exact hR, fun y hy => by
        rcases List.mem_append.1 hy with hy | hy
        · exact (he y hy).fr (sf_ro h.me) F
        · rw [List.mem_singleton.1 hy]; exact hx.fr (sf_ro h.me) F⟩
      chs := fun _ => hP.chs (by decide)
      prm := fun j hj _ => hP.prm j hj (by omega)
      box := fun j hj _ => hP.box j hj (by omega)
      img := hP.img
      rim := hP.rim }
theorem tell_ok (w : World) (O : Owners) (i pb : Nat) (M : PM) (dst : Int) (x : LtM) (h : PeerAt w O i pb M) (hx : RoL w O x) (hl : M.lt.l.length ≤ 1000000000) :
    Calls Tryz.prog 44 #[.pointer (some ⟨pb, 0, none⟩), .int .i64 dst, lval x] w fun e w' => e = .returned (.tuple #[]) ∧ ∃ c a, Behind w O i pb (Sf i 7) w' { M with lt := ⟨a, c, M.lt.l ++ [{ x with fr := M.node, dst := dst }]⟩ } := by
  obtain ⟨j0, hj, hy0, hy1, hy2⟩ := info_parts infoLetter
  obtain ⟨y, hy⟩ : ∃ y, y = ({ x with fr := M.node, dst := dst } : LtM) := ⟨_, rfl⟩
  have hRy : RoL w O y := by rw [hy]; exact ⟨hx.vs, hx.vb, hx.es, hx.eb, hx.db⟩
  have hpz := (kit.blk h.blk).2.2
  have x54 : w.cell? ⟨pb, 54, none⟩ = some (.slice M.lt.a M.lt.l.length M.lt.c) := (kit.blk h.blk).1 54
  have x0 : w.cell? ⟨pb, 0, none⟩ = some (.int .i64 M.node) := (kit.blk h.blk).1 0
  obtain ⟨w1, hw1⟩ : ∃ w1, w1 = w.alloc (.cells y.cells.toArray 84) := ⟨_, rfl⟩
  have hb1 : Below w.heap.size w w1 := by rw [hw1]; exact below_new1 _ _
  have hn1 : w1.heap[w.heap.size]? = some (.cells y.cells.toArray 84 (0, 0)) := by rw [hw1]; exact hp_alloc_new _ _
  have hs1 : w1.heap.size = w.heap.size + 1 := by rw [hw1, size_new]
  have HFIN := Lib.hid (fun (w5 : World) (a5 : Option Addr) (c5 : Nat) => tell_fin (w5 := w5) (a5 := a5) (c5 := c5) (x := y) (W2 := w1.drew.alloc (.cells y.cells.toArray 84)) h hRy (below_step hb1 (below_step (below_drewN (Below.refl _ w1) 1) (below_new1 w1.drew _))))
  have HO := Lib.hid (own_below (own_below (h.parts.lts (fun x => x)).1.row hb1) (below_step (below_drewN (Below.refl _ w1) 1) (below_new1 w1.drew (.cells y.cells.toArray 84))))
  have HLI := Lib.hid (lie_list w1.drew 84 y.cells)
  have y54 := cell_step x54 hb1
  have e3 : ∀ o : Obj, (w1.alloc o).cell? ⟨pb, 54, none⟩ = some (.slice M.lt.a M.lt.l.length M.lt.c) := fun o => cell_step y54 (below_new1 _ o)
  have hq : ∀ k, w1.cell? ⟨w.heap.size, k, none⟩ = y.cells[k]? := fun k => by rw [(kit.blk hn1).1 k]; simp
  have q0 : w1.cell? ⟨w.heap.size, 0, none⟩ = some (.int .i64 y.kind) := hq 0
  have q1 : w1.cell? ⟨w.heap.size, 1, none⟩ = some (.int .i64 y.fr) := hq 1
  have q2 : w1.cell? ⟨w.heap.size, 2, none⟩ = some (.int .i64 y.dst) := hq 2
  have q3 : w1.cell? ⟨w.heap.size, 3, none⟩ = some (.int .i64 y.b1) := hq 3
  have q4 : w1.cell? ⟨w.heap.size, 4, none⟩ = some (.int .i64 y.b2) := hq 4
  have q5 : w1.cell? ⟨w.heap.size, 5, none⟩ = some (.int .i64 y.slot) := hq 5
  have q6 : w1.cell? ⟨w.heap.size, 6, none⟩ = some (.int .i64 y.commit) := hq 6
  have q7 : w1.cell? ⟨w.heap.size, 7, none⟩ = some (.slice y.vs.a y.vs.l.length y.vs.c) := hq 7
  have q8 : w1.cell? ⟨w.heap.size, 8, none⟩ = some (.slice y.es.a y.es.l.length y.es.c) := hq 8
  have q9 : w1.cell? ⟨w.heap.size, 9, none⟩ = some (.int .i64 y.at_) := hq 9
  have q10 : w1.cell? ⟨w.heap.size, 10, none⟩ = some (.int .i64 y.of_) := hq 10
  have q11 : w1.cell? ⟨w.heap.size, 11, none⟩ = some (.int .u32 y.sum) := hq 11
  have q12 : w1.cell? ⟨w.heap.size, 12, none⟩ = some (.slice y.d.a y.d.l.length y.d.c) := hq 12
  have HW1 := Lib.hid hw1
  have HY := Lib.hid hy
  clear h hx hRy hw1 hb1 hn1 hq x54 hs1 hy
  simp only [lval]
  go_enter Tryz.func44, Tryz.ntmps44
  go_upto_region 2 with fail
  have HW2 := HW1.out
  rw [HY.out] at HW2
  simp only [LtM.cells, Sl.val] at HW2
  rw [← HW2]
  clear x0 HW2
  go_region_law (refine step_append_at rfl (.tmp 18) (.tmp 20) 38 rfl 0 84 j0 _ 13 152 Tryz.underlying38 hj hy0 hy1 hy2 rfl (by decide) (.slice M.lt.a M.lt.l.length M.lt.c) M.lt.l.length (M.lt.l.flatMap LtM.cells) rfl HO.out ⟨w1.heap.size, 0, none⟩ 1 1 y.cells rfl rfl HLI.out (lcells_one y) (by unfold maxLen; omega) (by omega) (Nat.zero_le _) ?_; intro v5 w5 hown hgr hat; obtain ⟨a5, c5, rfl⟩ := own_shape hown; obtain ⟨hF1, ⟨vo, hF3⟩, hF4⟩ := HFIN.out w5 a5 c5 hown hgr hat; have HF := Lib.hid hF1; clear hF1 hown hgr hat)
  all_goals
    go_wp2_with fail
    exact bodyPost_end (v := .tuple #[]) (by simp [results, Tryz.results44, go_sem]) rfl ⟨rfl, _, _, by rw [← HY.out]; exact HF.out⟩

/-- An entry with a value of its own. -/
theorem own_ok (w : World) (s : Int) (b : Sl Nat) (h : Lie w b.a (bcells b.l)) (hn : b.a = none → b.l.length = 0 ∧ b.c = 0) (hl : b.l.length ≤ 140737488355328) (hB : Byt b.l) :
    Calls Tryz.prog 15 #[.agg #[.int .i64 s, .slice b.a b.l.length b.c]] w fun e w' => ∃ a c, e = .returned (.agg #[.int .i64 s, .slice a b.l.length c]) ∧ RoB w' ⟨a, c, b.l⟩ ∧ Below w.heap.size w w' := by
  obtain ⟨w2, hw2⟩ : ∃ w2 : World, w2 = (w.alloc (.cells #[.int .i64 s, .slice b.a b.l.length b.c] 47)).alloc (.cells #[.int .i64 0, .slice none 0 0] 47) := ⟨_, rfl⟩
  have hb2 : Below w.heap.size w w2 := by rw [hw2]; exact below_new2 _ _ _
  have hn2 := new2 w (.cells #[.int .i64 s, .slice b.a b.l.length b.c] 47) (.cells #[.int .i64 0, .slice none 0 0] 47)
  rw [← hw2] at hn2
  obtain ⟨n0, n1, hs2⟩ := hn2
  have HC := Lib.hid (clone_any b.l b.a b.c w2 hl hn (h.below hb2))
  have HB2 := Lib.hid hb2
  have HN0 := Lib.hid n0
  have HN1 := Lib.hid n1
  have HW := Lib.hid hw2
  obtain ⟨u0, u1, g0, g1, ug⟩ := blk2 n0
  clear hb2 n0 n1 hw2
  go_enter Tryz.func15, Tryz.ntmps15
  go_wp2_with fail
  rw [← HW.out]
  refine HC.out.mono ?_; rintro e w3 ⟨v3, rfl, hown, hb3⟩
  obtain ⟨a3, c3, rfl⟩ := own_shape hown
  have m0 := hp_step HN0.out hb3
  have m1 := hp_step HN1.out hb3
  have hz3 := hb3.size
  have hb := below_step HB2.out hb3
  have HOWN := Lib.hid (own_mono hown (by omega) : w3.ownsRow w.heap.size 5 1 _ _ _)
  have HB := Lib.hid hb
  obtain ⟨p0, p1, f0, f1, pz⟩ := blk2 m0
  obtain ⟨q0, q1, k0, k1, qz⟩ := blk2 m1
  have M0 := Lib.hid m0
  have M1 := Lib.hid m1
  clear hown hb3 m0 m1 hb HC HW HB2 HN0 HN1 u0 u1 g0 g1 ug
  go_wp2_with fail
  refine bodyPost_ret (v := .agg #[.int .i64 s, .slice a3 b.l.length c3]) (by simp [results, Tryz.results15, go_sem, p0, p1, q0, q1]) rfl ⟨a3, c3, rfl, rob_own (base := w.heap.size) (n := b.l.length) ?_ rfl hl hB, ?_⟩
  · refine own_kept HOWN.out (fun g hg => ?_)
    have h0 : g ≠ w.heap.size := own_ne HOWN.out M0.out (by decide) g hg
    have h1 : g ≠ w.heap.size + 1 := own_ne HOWN.out M1.out (by decide) g hg
    rw [hp_set_ne (by exact h1), hp_set_ne (by exact h1), hp_set_ne (by exact h0)]
  · exact ((HB.out.setCell (p := ⟨w.heap.size, 1, none⟩) (Nat.le_refl _) _).setCell (p := ⟨w.heap.size + 1, 0, none⟩) (by simp) _).setCell (p := ⟨w.heap.size + 1, 1, none⟩) (by simp) _
/-- The commit. -/
theorem commit_nil (w : World) : Calls Tryz.prog 12 #[.pointer none] w fun e w' => e = .returned (.int .i64 0) ∧ w' = w := by
  go_enter Tryz.func12, Tryz.ntmps12
  go_wp2_with fail
  go_ret
  exact ⟨rfl, rfl⟩
theorem commit_ok (w : World) (O : Owners) (i pb : Nat) (M : PM) (h : PeerAt w O i pb M) (h1 : 0 ≤ M.index ∧ M.index ≤ 4398046511104) (h2 : M.en.l.length ≤ 4398046511104) :
    Calls Tryz.prog 12 #[.pointer (some ⟨pb, 0, none⟩)] w fun e w' => e = .returned (.int .i64 (M.index + M.en.l.length)) ∧ Below w.heap.size w w' := by
  have x7 : w.cell? ⟨pb, 7, none⟩ = some (.int .i64 M.index) := (kit.blk h.blk).1 7
  have x9 : w.cell? ⟨pb, 9, none⟩ = some (.slice M.en.a M.en.l.length M.en.c) := (kit.blk h.blk).1 9
  have hw : IntKind.i64.wrap (M.index + M.en.l.length) = M.index + M.en.l.length := IntWalk.i64_in _ (by omega)
  clear h
  go_enter Tryz.func12, Tryz.ntmps12
  go_wp2_with fail
  go_quiet (fail)
  go_wp2_with fail
  go_ret
  exact ⟨rfl, below_drewN (Below.refl _ _) _⟩
end Go.Proofs.YtcaakiaenfkeaaaGreat.pen
/-
  What a step on one part of a member leaves of it: a store, the acceptor, the log; settled.
-/
namespace Go.Proofs.YtcaakiaenfkeaaaGreat.pes
open Go.ChangeShapes Go.WideShapes Go.ChangeAt Go.RowKit
open Go.Proofs.YtcaakiaenfkeaaaGreat.kit Go.Proofs.YtcaakiaenfkeaaaGreat.mapkit Go.Proofs.YtcaakiaenfkeaaaGreat.byt Go.Proofs.YtcaakiaenfkeaaaGreat.own Go.Proofs.YtcaakiaenfkeaaaGreat.accd Go.Proofs.YtcaakiaenfkeaaaGreat.accb Go.Proofs.YtcaakiaenfkeaaaGreat.acce Go.Proofs.YtcaakiaenfkeaaaGreat.chd Go.Proofs.YtcaakiaenfkeaaaGreat.che Go.Proofs.YtcaakiaenfkeaaaGreat.ownr Go.Proofs.YtcaakiaenfkeaaaGreat.pep Go.Proofs.YtcaakiaenfkeaaaGreat.peb Go.Proofs.YtcaakiaenfkeaaaGreat.pem Go.Proofs.YtcaakiaenfkeaaaGreat.pen
open Go.Proofs.YtcaakiaenfkeaaaGreat.logq (LogAt RowQ KeepQ Fit El flat)
set_option linter.unusedVariables false
set_option linter.unusedSimpArgs false
set_option maxHeartbeats 4000000
set_option maxRecDepth 100000

/-- Parts look at these alone. -/
theorem Parts.same {w : World} {O : Owners} {i : Nat} {M M' : PM} {f : Nat → Prop} (h : Parts w O i M f) (e1 : (M'.ab, M'.mb, M'.A) = (M.ab, M.mb, M.A)) (e2 : (M'.en, M'.ob, M'.td) = (M.en, M.ob, M.td)) (e3 : (M'.nt, M'.lt, M'.ch) = (M.nt, M.lt, M.ch)) (e4 : (M'.im, M'.rm) = (M.im, M.rm))
    (e5 : ∀ j, (M'.pr j).vs = (M.pr j).vs) (e6 : ∀ j, (M'.pc j).2 = (M.pc j).2) : Parts w O i M' f := by
  simp only [Prod.mk.injEq] at e1 e2 e3 e4
  obtain ⟨a1, a2, a3⟩ := e1
  obtain ⟨b1, b2, b3⟩ := e2
  obtain ⟨c1, c2, c3⟩ := e3
  obtain ⟨d1, d2⟩ := e4
  exact ⟨by rw [a1, a2, a3]; exact h.acc, by rw [b1]; exact h.ent, by rw [b2]; exact h.opn, by rw [b3]; exact h.tdo, by rw [c1]; exact h.nts, by rw [c2]; exact h.lts, by rw [c3]; exact h.chs,
    fun j hj hn => by rw [e5 j]; exact h.prm j hj hn, fun j hj hn => by rw [e6 j]; exact h.box j hj hn, by rw [d1]; exact h.img, by rw [d2]; exact h.rim⟩
theorem still_peer : ¬ Still 70 := by rintro (e | e) <;> exact absurd e (by decide)
/-- A store into the member's own block. -/
theorem peer_set {w : World} {O : Owners} {i pb k : Nat} {M M' : PM} {v : Value} (h : PeerAt w O i pb M) (hc : (pcells M).setIfInBounds k v = pcells M') (e1 : (M'.ab, M'.mb, M'.A) = (M.ab, M.mb, M.A)) (e2 : (M'.en, M'.ob, M'.td) = (M.en, M.ob, M.td)) (e3 : (M'.nt, M'.lt, M'.ch) = (M.nt, M.lt, M.ch)) (e4 : (M'.im, M'.rm) = (M.im, M.rm))
    (e5 : ∀ j, (M'.pr j).vs = (M.pr j).vs) (e6 : ∀ j, (M'.pc j).2 = (M.pc j).2) : Behind w O i pb (Sf i 1) (w.setCell ⟨pb, k, none⟩ v) M' := by
  have F : Fr (Sf i 1) w O (w.setCell ⟨pb, k, none⟩ v) O := (Fr.refl (Sf i 1) h.clean).set (p := ⟨pb, k, none⟩) (.inr (.inl h.tag)) h.blk still_peer v
  refine ⟨O, ⟨F.clean, h.me, by rw [← hc]; exact hp_set h.blk k v, h.tag, ?_⟩, F⟩
  have hP := h.parts.fr (g := fun j => j = 1) (fun _ hf => hf.elim) (fun j hj => by rintro (e | e) <;> exact hj (congrArg Prod.snd e)) (sf_ro h.me) F
  have hQ : Parts (w.setCell ⟨pb, k, none⟩ v) O i M (fun _ => False) := ⟨fun _ => hP.acc (by decide), fun _ => hP.ent (by decide), fun _ => hP.opn (by decide), fun _ => hP.tdo (by decide), fun _ => hP.nts (by decide), fun _ => hP.lts (by decide), fun _ => hP.chs (by decide), fun j hj _ => hP.prm j hj (by omega), fun j hj _ => hP.box j hj (by omega), hP.img, hP.rim⟩
  exact Parts.same hQ e1 e2 e3 e4 e5 e6
/-- A call that makes memory alone. -/
theorem PeerAt.below {w w' : World} {O : Owners} {i pb : Nat} {M : PM} (h : PeerAt w O i pb M) (hb : Below w.heap.size w w') : PeerAt w' O i pb M :=
  h.fr (S := fun _ => False) (fun _ hf => hf) (fun hf => hf) (Fr.of_below h.clean hb)
theorem Behind.below {w w' w2 : World} {O : Owners} {i pb : Nat} {S : Tag → Prop} {M : PM} (h : Behind w O i pb S w' M) (hb : Below w'.heap.size w' w2) : Behind w O i pb S w2 M := by
  obtain ⟨O', h1, h2⟩ := h
  exact ⟨O', PeerAt.below h1 hb, h2.trans (Fr.of_below h1.clean hb)⟩
theorem Behind.trans {w w' w2 : World} {O : Owners} {i pb : Nat} {S1 S2 S : Tag → Prop} {M M2 : PM} (h : Behind w O i pb S1 w' M) (k : ∀ O', PeerAt w' O' i pb M → Behind w' O' i pb S2 w2 M2) (h1 : ∀ t, S1 t → S t) (h2 : ∀ t, S2 t → S t) : Behind w O i pb S w2 M2 := by
  obtain ⟨O', a, b⟩ := h
  obtain ⟨O2, c, d⟩ := k O' a
  exact ⟨O2, c, (b.mono h1).trans (d.mono h2)⟩
theorem Behind.start {w w' : World} {O : Owners} {i pb : Nat} {S : Tag → Prop} {M : PM} (h : PeerAt w O i pb M) (hb : Below w.heap.size w w') : Behind w O i pb S w' M := ⟨O, PeerAt.below h hb, Fr.of_below h.clean hb⟩
theorem Behind.mono {w w' : World} {O : Owners} {i pb : Nat} {S S' : Tag → Prop} {M : PM} (h : Behind w O i pb S w' M) (hs : ∀ t, S t → S' t) : Behind w O i pb S' w' M := by
  obtain ⟨O', a, b⟩ := h
  exact ⟨O', a, b.mono hs⟩
/-- All of a member's tags, but its boxes'. -/
def Mine (i : Nat) (t : Tag) : Prop := t.1 = i ∧ t.2 < 20
theorem sf_mine {i f : Nat} (hf : f < 20 := by decide) : ∀ t, Sf i f t → Mine i t := by
  rintro t (rfl | rfl)
  · exact ⟨rfl, (by decide : (1 : Nat) < 20)⟩
  · exact ⟨rfl, hf⟩

/-- The acceptor has done something. -/
theorem peer_acc {w w' : World} {O : Owners} {i pb : Nat} {M : PM} {A' : AS} (h : PeerAt w O i pb M) (hA : AccIs w' 0 M.ab M.mb A') (hk : Keep (fun k => k = M.ab ∨ k = M.mb) w w') : Behind w O i pb (Sf i 2) w' { M with A := A' } := by
  obtain ⟨hacc, t1, t2⟩ := h.parts.acc (fun x => x)
  obtain ⟨vs, hat, e⟩ := hacc
  obtain ⟨es, cl, hm⟩ := hat.map.obj
  have F : Fr (Sf i 2) w O w' O := Fr.of_keep h.clean hk (fun k hkz hs => by
    rcases hs with rfl | rfl
    · exact .inr t1
    · exact .inr t2) (fun k cs T hT hg hs => by
    rcases hs with rfl | rfl
    · rw [hat.blk] at hg
      simp only [Option.some.injEq, Obj.cells.injEq] at hg
      rw [← hg.2.1] at hT
      rcases hT with e | e <;> exact absurd e (by decide)
    · rw [hm] at hg; simp at hg)
  have hP := h.parts.fr (g := fun j => j = 1 ∨ j = 2) (fun _ hf => hf.elim) (fun j hj => by
    rintro (e | e)
    · exact hj (.inl (congrArg Prod.snd e))
    · exact hj (.inr (congrArg Prod.snd e))) (sf_ro h.me) F
  have hne : pb ≠ M.ab ∧ pb ≠ M.mb := by
    constructor
    · intro e; rw [← e, h.tag] at t1; exact absurd (show (1 : Nat) = 2 from congrArg Prod.snd t1) (by decide)
    · intro e; rw [← e, h.tag] at t2; exact absurd (show (1 : Nat) = 2 from congrArg Prod.snd t2) (by decide)
  exact ⟨O, ⟨F.clean, h.me, hk.hp h.blk (fun hs => by rcases hs with e | e <;> first | exact hne.1 e | exact hne.2 e), h.tag, ⟨fun _ => ⟨hA, t1, t2⟩, fun _ => hP.ent (by decide), fun _ => hP.opn (by decide), fun _ => hP.tdo (by decide), fun _ => hP.nts (by decide), fun _ => hP.lts (by decide), fun _ => hP.chs (by decide), fun j hj _ => hP.prm j hj (by omega), fun j hj _ => hP.box j hj (by omega), hP.img, hP.rim⟩⟩, F⟩
/-- The log has been changed. -/
theorem peer_log {w w' : World} {O : Owners} {i pb b : Nat} {M : PM} {L L' : LogM} {Q : Nat → Prop} (h : PeerAt w O i pb M) (hob : M.ob = some (b, L)) (hQ : ∀ k, k < w.heap.size → Q k → ∃ o n c, w.cell? ⟨b, 2, none⟩ = some (.slice (some ⟨k, o, none⟩) n c)) (hl : LogAt w' 0 b L'.first 1024 (L'.cs.map rawC)) (hb : Below 0 w w') (hk : KeepQ b Q w w') (hr : RowQ w' b Q) (hf : Fit L'.first 1024 (L'.cs.map rawC))
    (hv : ∀ O', Fr (Sf i 4) w O w' O' → ∀ x ∈ L'.cs, x.2 = true → RoB w' x.1.1 ∧ RoI w' x.1.2) : Behind w O i pb (Sf i 4) w' { M with ob := some (b, L') } := by
  have hlo : LogOk w O (i, 4) b L := h.parts.opn (fun x => x) _ hob
  obtain ⟨h0, a, c, h1, h2⟩ := hlo.log
  have hbz := (blk3 h1).2.2.2.2.2.2
  have hc2 := (blk3 h1).2.2.1
  have hl0 := hl
  obtain ⟨h0', a', c', h1', h2'⟩ := hl
  have hc2' := (blk3 h1').2.2.1
  have hq' : ∀ g, a' = some ⟨g, 0, none⟩ → Q g := fun g hg => hr g 0 _ _ (by rw [hc2', hg])
  have hqk : ∀ k, k < w.heap.size → Q k → O k = (i, 4) ∧ ∃ cur, w.heap[k]? = some (.cells cur 125 (0, 0)) := fun k hkz hq => by
    obtain ⟨o, n, c3, e⟩ := hQ k hkz hq
    have htag := hlo.row k o n c3 e
    rw [hc2] at e
    simp only [Option.some.injEq, Value.slice.injEq] at e
    obtain ⟨rfl, _⟩ := e
    obtain rfl := logq.own_at h2 k o rfl
    exact ⟨htag, own_heap h2 k rfl⟩
  have hpq : ¬ Q pb := fun hq => by
    have := (hqk pb (kit.blk h.blk).2.2 hq).1
    rw [h.tag] at this
    exact absurd (show (1 : Nat) = 4 from congrArg Prod.snd this) (by decide)
  have hpb : pb ≠ b := fun e => by
    have := hlo.tag
    rw [← e, h.tag] at this
    exact absurd (show (1 : Nat) = 4 from congrArg Prod.snd this) (by decide)
  have F : Fr (Sf i 4) w O w' (fun k => if a' = some ⟨k, 0, none⟩ then (i, 4) else O k) := by
    refine ⟨hb.os, hb.tape, hb.output, hk.1, fun k hkz => ?_, fun k hkz hs => ?_, fun k cs T hT hg => ?_, fun k hkz => ?_⟩
    · show (if a' = some ⟨k, 0, none⟩ then (i, 4) else O k) = O k
      split
      · rename_i e; exact (hqk k hkz (hq' k e)).1.symm
      · rfl
    · refine hk.2 k hkz (fun e => hs (.inr (by rw [e]; exact hlo.tag))) (fun e => hs (.inr (hqk k hkz e).1))
    · have hkz := (kit.blk hg).2.2
      refine (hk.2 k hkz (fun e => ?_) (fun e => ?_)).trans hg
      · rw [e, h1] at hg
        simp only [Option.some.injEq, Obj.cells.injEq] at hg
        rw [← hg.2.1] at hT
        rcases hT with e | e <;> exact absurd e (by decide)
      · obtain ⟨cur, hcur⟩ := (hqk k hkz e).2
        rw [hcur] at hg
        simp only [Option.some.injEq, Obj.cells.injEq] at hg
        rw [← hg.2.1] at hT
        rcases hT with e | e <;> exact absurd e (by decide)
    · show (if a' = some ⟨k, 0, none⟩ then (i, 4) else O k) = ro
      rw [if_neg (fun e => by have := (own_from h2' k e).2; omega)]
      exact h.clean k (Nat.le_trans hk.1 hkz)
  have hP := h.parts.fr (g := fun j => j = 1 ∨ j = 4) (fun _ hf => hf.elim) (fun j hj => by
    rintro (e | e)
    · exact hj (.inl (congrArg Prod.snd e))
    · exact hj (.inr (congrArg Prod.snd e))) (sf_ro h.me) F
  have hpc : pcells { M with ob := some (b, L') } = pcells M := by simp only [pcells, hob]; rfl
  refine ⟨_, ⟨F.clean, h.me, by rw [hpc]; exact (hk.2 pb (kit.blk h.blk).2.2 hpb hpq).trans h.blk, (F.own pb (kit.blk h.blk).2.2).trans h.tag, ⟨fun _ => hP.acc (by decide), fun _ => hP.ent (by decide), fun _ x hx => ?_, fun _ => hP.tdo (by decide), fun _ => hP.nts (by decide), fun _ => hP.lts (by decide), fun _ => hP.chs (by decide), fun j hj _ => hP.prm j hj (by omega), fun j hj _ => hP.box j hj (by omega), hP.img, hP.rim⟩⟩, F⟩
  obtain rfl : (b, L') = x := Option.some.inj hx
  refine ⟨hl0, (F.own b hbz).trans hlo.tag, fun g o n c hc => ?_, hf, hv _ F⟩
  rw [hc2'] at hc
  simp only [Option.some.injEq, Value.slice.injEq] at hc
  obtain ⟨rfl, _⟩ := hc
  obtain rfl := logq.own_at h2' g o rfl
  exact if_pos rfl

def logCut (L : LogM) (i : Int) : LogM := if i ≤ L.first ∨ farI < i then L else ⟨i, L.cs.drop (i - L.first).toNat⟩
theorem logCut_dat (L : LogM) (i : Int) : (logCut L i).dat = L.dat.cut i := by
  unfold logCut Ol.cut
  show LogM.dat (if i ≤ L.first ∨ farI < i then L else _) = if i ≤ L.first ∨ farI < i then L.dat else ⟨i, L.dat.cells.drop (i - L.first).toNat⟩
  split
  · rfl
  · simp only [LogM.dat, List.map_drop]
theorem logCut_first (L : LogM) (i : Int) : (logCut L i).first = logq.cutF L.first i := by
  unfold logCut logq.cutF farI
  by_cases hc : i ≤ L.first ∨ 1099511627776 < i
  · rw [if_pos hc, if_pos (show logq.cutI L.first i from hc)]
  · rw [if_neg hc, if_neg (show ¬ logq.cutI L.first i from hc)]
theorem logCut_cs (L : LogM) (i : Int) : (logCut L i).cs.map rawC = logq.cutC L.first (L.cs.map rawC) i := by
  unfold logCut logq.cutC farI
  by_cases hc : i ≤ L.first ∨ 1099511627776 < i
  · rw [if_pos hc, if_pos (show logq.cutI L.first i from hc)]
  · rw [if_neg hc, if_neg (show ¬ logq.cutI L.first i from hc), List.map_drop]
theorem logCut_mem {L : LogM} {i : Int} {x : (Sl Nat × Sl Int) × Bool} (h : x ∈ (logCut L i).cs) : x ∈ L.cs := by
  unfold logCut at h
  split at h
  · exact h
  · exact List.mem_of_mem_drop h
def logQ (w : World) (b N : Nat) (k : Nat) : Prop := (∃ o n c, w.cell? ⟨b, 2, none⟩ = some (.slice (some ⟨k, o, none⟩) n c)) ∨ N ≤ k
def PM.settled (M : PM) : PM :=
  if M.leads then { M with A := forgetS M.A (M.index + M.en.l.length + 1), ob := M.ob.map fun x => (x.1, logCut x.2 (M.index + M.en.l.length + 1)), next := max M.next (M.index + M.en.l.length + 1) }
  else { M with A := forgetS M.A (M.index + M.en.l.length + 1) }
theorem settled_dat (M : PM) : (PM.settled M).dat = M.dat.settled := by
  unfold PM.settled PD.settled PD.commit
  have e : M.dat.index + (M.dat.entries.length : Int) + 1 = M.index + M.en.l.length + 1 := by show M.index + ((M.en.l.map le).length : Int) + 1 = _; rw [List.length_map]
  rw [e]
  cases hl : M.leads with
  | false =>
    have : M.dat.leads = false := hl
    simp only [this, Bool.false_eq_true, if_false]
    rfl
  | true =>
    have : M.dat.leads = true := hl
    simp only [this, if_true]
    simp only [PM.dat, Option.map_map]
    congr 1
    cases M.ob with
    | none => rfl
    | some x => simp only [Option.map_some, Function.comp, logCut_dat]
theorem settled_ok (w : World) (O : Owners) (i pb : Nat) (M : PM) (h : PeerAt w O i pb M) (h1 : 0 ≤ M.index ∧ M.index ≤ 4398046511104) (h2 : M.en.l.length ≤ 4398046511104) (h3 : M.leads = true → ∃ x, M.ob = some x) :
    Calls Tryz.prog 67 #[.pointer (some ⟨pb, 0, none⟩)] w fun e w' => e = .returned (.tuple #[]) ∧ Behind w O i pb (Mine i) w' (PM.settled M) := by
  have HC := Lib.hid (commit_ok w O i pb M h h1 h2)
  have HP := Lib.hid h
  obtain ⟨C, hC⟩ : ∃ C : Int, C = M.index + M.en.l.length + 1 := ⟨_, rfl⟩
  have hw : IntKind.i64.wrap (M.index + M.en.l.length + 1) = M.index + M.en.l.length + 1 := IntWalk.i64_in _ (by omega)
  clear h
  go_enter Tryz.func67, Tryz.ntmps67
  go_upto_region 1 with (go_at_call 12; refine HC.out.mono ?_; rintro e w1 ⟨rfl, hb1⟩; have HB1 := Lib.hid hb1; clear hb1)
  have P1 := PeerAt.below HP.out HB1.out
  have x2 : w1.cell? ⟨pb, 2, none⟩ = some (.pointer (some ⟨M.ab, 0, none⟩)) := (kit.blk P1.blk).1 2
  have HF := Lib.hid (forget_ok w1 0 M.ab M.mb M.A C (P1.parts.acc (fun x => x)).1)
  have HP1 := Lib.hid P1
  rw [← hC]
  have HCC := Lib.hid hC
  clear P1 hw hC
  go_upto_region 2 with (go_at_call 75; refine HF.out.mono ?_; rintro e w2 ⟨rfl, hA2, hk2⟩; have HL2 := Lib.hid (peer_acc HP1.out hA2 hk2); clear hA2 hk2)
  obtain ⟨O2, P2, F2⟩ := HL2.out
  have x12 : w2.cell? ⟨pb, 12, none⟩ = some (.bool M.leads) := (kit.blk P2.blk).1 12
  have HP2 := Lib.hid P2
  have HF2 := Lib.hid ((Fr.of_below (S := Mine i) HP.out.clean HB1.out).trans (F2.mono sf_mine))
  clear x2 P2 F2 HL2 HF HC
  cases hl : M.leads with
  | false =>
    rw [hl] at x12
    go_wp2_with fail
    refine bodyPost_end (v := .tuple #[]) (by simp [results, Tryz.results67, go_sem]) rfl ⟨rfl, O2, ?_, HF2.out⟩
    have e : PM.settled M = { M with A := forgetS M.A C } := by unfold PM.settled; rw [if_neg (by rw [hl]; decide), ← HCC.out]
    rw [e]
    exact HP2.out
  | true =>
    rw [hl] at x12
    obtain ⟨⟨b, L⟩, hob⟩ := h3 hl
    have hlo : LogOk w2 O2 (i, 4) b L := HP2.out.parts.opn (fun x => x) _ hob
    have x37 : w2.cell? ⟨pb, 37, none⟩ = some (.pointer (some ⟨b, 0, none⟩)) := by
      have e : w2.cell? ⟨pb, 37, none⟩ = some (optP (M.ob.map Prod.fst)) := (kit.blk HP2.out.blk).1 37
      rw [e, hob]; rfl
    have HCU := Lib.hid (logq.cut_ty w2 0 b L.first 1024 (L.cs.map rawC) C hlo.log hlo.fit (Nat.zero_le _) (logQ w2 b w2.heap.size) (fun k hk => .inr hk) (fun g o n c hc => .inl ⟨o, n, c, hc⟩))
    have HLO := Lib.hid hlo
    have HOB := Lib.hid hob
    have HL := Lib.hid hl
    clear hlo hob hl
    go_upto_region 4 with (go_at_call 76; refine HCU.out.mono ?_; rintro e w3 ⟨rfl, hL3, hb3, hk3, hr3⟩; have HC3 := Lib.hid (And.intro hL3 (And.intro hb3 (And.intro hk3 hr3))); clear hL3 hb3 hk3 hr3)
    obtain ⟨O3, P3, F3⟩ := peer_log (L' := logCut L C) HP2.out HOB.out (fun k hkz hq => hq.elim id (fun hh => by omega)) (by rw [logCut_first, logCut_cs]; exact HC3.out.1) HC3.out.2.1 HC3.out.2.2.1 HC3.out.2.2.2 (by rw [logCut_first, logCut_cs]; exact logq.cut_fit HLO.out.fit C) (fun O' F x hx hx2 => ⟨((HLO.out.val x (logCut_mem hx) hx2).1).fr F, ((HLO.out.val x (logCut_mem hx) hx2).2).fr F⟩)
    have x39 : w3.cell? ⟨pb, 39, none⟩ = some (.int .i64 M.next) := (kit.blk P3.blk).1 39
    have f39 : w3.frozen? ⟨pb, 39, none⟩ = false := (kit.blk P3.blk).2.1 39
    have hpz := (kit.blk P3.blk).2.2
    have HP3 := Lib.hid P3
    have HF3 := Lib.hid (HF2.out.trans (F3.mono sf_mine))
    clear P3 F3 x12 x37 HCU HC3
    go_wp2_with fail
    refine bodyPost_end (v := .tuple #[]) (by simp [results, Tryz.results67, go_sem]) rfl ⟨rfl, ?_⟩
    have hfin : Behind w3 O3 i pb (Sf i 1) (w3.setCell ⟨pb, 39, none⟩ (.int .i64 (max M.next C))) (PM.settled M) := by
      have e : PM.settled M = { M with A := forgetS M.A C, ob := some (b, logCut L C), next := max M.next C } := by unfold PM.settled; rw [if_pos HL.out, ← HCC.out, HOB.out]; rfl
      rw [e]
      exact peer_set (k := 39) HP3.out rfl rfl rfl rfl rfl (fun j => rfl) (fun j => rfl)
    obtain ⟨O4, P4, F4⟩ := hfin
    exact ⟨O4, P4, HF3.out.trans (F4.mono sf_mine)⟩
end Go.Proofs.YtcaakiaenfkeaaaGreat.pes
