/-
  Casts and entries in memory: rows of one's own; same.Entry, same.Entries.
-/
import Derived.Test.YtodoncmielfbeaaChRR
import Derived.StillTailTactics
import Derived.Carry
namespace Go.Proofs.Ytodoncmielfbeaa.che
open Go.ChangeShapes Go.WideShapes Go.ChangeAt Go.RowKit
open Go.Proofs.Ytodoncmielfbeaa.kit Go.Proofs.Ytodoncmielfbeaa.mapkit Go.Proofs.Ytodoncmielfbeaa.byt Go.Proofs.Ytodoncmielfbeaa.own Go.Proofs.Ytodoncmielfbeaa.accd Go.Proofs.Ytodoncmielfbeaa.chd Go.Proofs.Ytodoncmielfbeaa.chb
set_option linter.unusedVariables false
set_option linter.unusedSimpArgs false
set_option maxHeartbeats 1000000
set_option maxRecDepth 100000

theorem flat_len {α : Type} {f : α → List Value} {size : Nat} (hf : ∀ x, (f x).length = size) (L : List α) : (L.flatMap f).length = L.length * size := by
  induction L with
  | nil => simp
  | cons x L ih => rw [List.flatMap_cons, List.length_append, hf, ih, List.length_cons, Nat.add_mul]; omega
theorem flat_get {α : Type} {f : α → List Value} {size : Nat} (hf : ∀ x, (f x).length = size) : ∀ (L : List α) (i : Nat) (hi : i < L.length) (j : Nat), j < size → (L.flatMap f)[i * size + j]? = (f L[i])[j]?
  | [], i, hi, _, _ => absurd hi (by simp)
  | x :: L, 0, _, j, hj => by
    rw [List.flatMap_cons, Nat.zero_mul, Nat.zero_add, List.getElem?_append_left (by rw [hf]; exact hj)]
    rfl
  | x :: L, i + 1, hi, j, hj => by
    rw [List.flatMap_cons, List.getElem?_append_right (by rw [hf, Nat.add_mul]; omega), hf, show (i + 1) * size + j - size = i * size + j by rw [Nat.add_mul]; omega]
    exact flat_get hf L i (by simpa using hi) j hj
/-- A row of one's own lies somewhere. -/
theorem own_rows {α : Type} {w : World} {base : Nat} {e : TypeId} {size c : Nat} {a : Option Addr} {L : List α} {f : α → List Value} (hf : ∀ x, (f x).length = size) (h : w.ownsRow base e size (.slice a L.length c) L.length (L.flatMap f)) : RowsAt w a size (L.map f) := by
  by_cases h0 : L = []
  · left; simp [h0]
  · have hpos : 0 < L.length := List.length_pos_iff.2 h0
    obtain ⟨g, rfl⟩ := own_ptr h hpos
    rcases h.2 with ⟨hz, _⟩ | ⟨g', c', cur, e', hg, hh, hc, hm, hsz, hcur⟩
    · simp at hz
    · simp only [Value.slice.injEq, Option.some.injEq, Addr.mk.injEq, and_true, true_and] at e'
      obtain ⟨rfl, _⟩ := e'
      refine .inr ⟨g, 0, rfl, (kit.blk hh).2.2, fun i hi j hj => ?_⟩
      have hi' : i < L.length := by simpa using hi
      rw [(kit.blk hh).1, Nat.zero_add]
      have h1 : (cur.toList.take (L.length * size))[i * size + j]? = (L.flatMap f)[i * size + j]? := by rw [hcur]
      have hlt : i * size + j < L.length * size := by
        have := Nat.mul_le_mul_right size (show i + 1 ≤ L.length from hi')
        rw [Nat.add_mul] at this; omega
      rw [List.getElem?_take, if_pos hlt, Array.getElem?_toList] at h1
      rw [h1, flat_get hf L i hi' j hj, List.getElem_map]

/-- A cast as it lies: whose, and the vote. -/
abbrev Ct := Int × Vt
def ccells (c : Ct) : List Value := [.int .i64 c.1, .int .i64 c.2.s, .int .i64 c.2.r, .int .i64 c.2.n, .slice c.2.a c.2.l.length c.2.c]
theorem ccells_len (c : Ct) : (ccells c).length = 5 := rfl
/-- What a cast says. -/
def cvv (c : Ct) : Int × chp.V := (c.1, vv c.2)
def atT (slot : Int) (p : Pt) : List Ct := (p.vs.filter (fun v => decide (v.s = slot))).map (fun v => (p.node, v))
theorem at_pv (slot : Int) (p : Pt) : (atT slot p).map cvv = chp.at_ slot (pv p) := by
  unfold atT chp.at_ pv
  rw [List.filter_map, List.map_map, List.map_map]
  rfl
theorem at_rd {w : World} {slot : Int} {p : Pt} (h : GoodP w p) : ∀ c ∈ atT slot p, Rd w c.2 := by
  intro c hc
  obtain ⟨v, hv, rfl⟩ := List.mem_map.1 hc
  exact h.row.good v (List.mem_filter.1 hv).1
/-- A row of casts of one's own. -/
structure RowK (w : World) (base : Nat) (T : TypeId) (a : Option Addr) (c : Nat) (cs : List Ct) : Prop where
  row : w.ownsRow base T 5 (.slice a cs.length c) cs.length (cs.flatMap ccells)
  rd : ∀ x ∈ cs, Rd w x.2
theorem RowK.below {w w' : World} {base : Nat} {T : TypeId} {a : Option Addr} {c : Nat} {cs : List Ct} (h : RowK w base T a c cs) (hb : Below w.heap.size w w') : RowK w' base T a c cs := ⟨own_below h.row hb, fun x hx => (h.rd x hx).below hb⟩
theorem RowK.cells {w : World} {base : Nat} {T : TypeId} {a : Option Addr} {c : Nat} {cs : List Ct} (h : RowK w base T a c cs) {k : Nat} (hk : k < cs.length) :
    ∃ g, a = some ⟨g, 0, none⟩ ∧ g < w.heap.size ∧ cs.length ≤ maxLen ∧ w.cell? ⟨g, k * 5, none⟩ = some (.int .i64 cs[k].1) ∧ w.cell? ⟨g, k * 5 + 1, none⟩ = some (.int .i64 cs[k].2.s) ∧ w.cell? ⟨g, k * 5 + 2, none⟩ = some (.int .i64 cs[k].2.r) ∧ w.cell? ⟨g, k * 5 + 3, none⟩ = some (.int .i64 cs[k].2.n) ∧
      w.cell? ⟨g, k * 5 + 4, none⟩ = some (.slice cs[k].2.a cs[k].2.l.length cs[k].2.c) := by
  obtain ⟨g, rfl⟩ := own_ptr h.row (by omega)
  have hcap : cs.length ≤ maxLen := by
    rcases h.row.2 with ⟨hz0, _⟩ | ⟨g', cap, cur, e', hgb, hh, hc', hm', _⟩
    · simp at hz0
    · omega
  rcases own_rows ccells_len h.row with h0 | ⟨b, off, e, hz, hc⟩
  · have : cs = [] := by simpa using h0
    subst this; simp at hk
  · simp only [Option.some.injEq, Addr.mk.injEq, and_true] at e
    obtain ⟨rfl, rfl⟩ := e
    have hi : k < (cs.map ccells).length := by simpa using hk
    have e0 := hc k hi 0 (by omega)
    have e1 := hc k hi 1 (by omega)
    have e2 := hc k hi 2 (by omega)
    have e3 := hc k hi 3 (by omega)
    have e4 := hc k hi 4 (by omega)
    simp only [List.getElem_map, Nat.add_zero, Nat.zero_add] at e0 e1 e2 e3 e4
    exact ⟨g, rfl, hz, hcap, e0.trans rfl, e1.trans rfl, e2.trans rfl, e3.trans rfl, e4.trans rfl⟩

/-- An entry as it lies. -/
structure Et where
  s : Int
  l : List Nat
  a : Option Addr
  c : Nat
def Et.cells (e : Et) : List Value := [.int .i64 e.s, .slice e.a e.l.length e.c]
theorem ecells_len (e : Et) : e.cells.length = 2 := rfl
def le (e : Et) : Int × List Nat := (e.s, e.l)
/-- A row of entries, wherever it lies. -/
structure RowE (w : World) (a : Option Addr) (es : List Et) : Prop where
  row : RowsAt w a 2 (es.map Et.cells)
  lie : ∀ e ∈ es, Lie w e.a (bcells e.l) ∧ (e.a = none → e.l.length = 0 ∧ e.c = 0) ∧ e.l.length ≤ 140737488355328
  len : es.length ≤ 1099511627776
theorem RowE.below {w w' : World} {a : Option Addr} {es : List Et} (h : RowE w a es) (hb : Below w.heap.size w w') : RowE w' a es := ⟨h.row.below hb, fun e he => ⟨(h.lie e he).1.below hb, (h.lie e he).2⟩, h.len⟩
theorem RowE.cells {w : World} {a : Option Addr} {es : List Et} (h : RowE w a es) (k : Nat) (hk : k < es.length) :
    ∃ g off, a = some ⟨g, off, none⟩ ∧ g < w.heap.size ∧ w.cell? ⟨g, off + k * 2, none⟩ = some (.int .i64 es[k].s) ∧ w.cell? ⟨g, off + k * 2 + 1, none⟩ = some (.slice es[k].a es[k].l.length es[k].c) := by
  rcases h.row with h | ⟨b, off, rfl, hz, h3⟩
  · have : es = [] := by simpa using h
    subst this; simp at hk
  · have hi : k < (es.map Et.cells).length := by simpa using hk
    have e0 := h3 k hi 0 (by omega)
    have e1 := h3 k hi 1 (by omega)
    simp only [List.getElem_map, Nat.add_zero] at e0 e1
    exact ⟨b, off, rfl, hz, e0.trans rfl, e1.trans rfl⟩
/-- A row of entries of one's own, their values too. -/
structure OwnE (w : World) (base : Nat) (a : Option Addr) (c : Nat) (es : List Et) : Prop where
  row : w.ownsRow base 39 2 (.slice a es.length c) es.length (es.flatMap Et.cells)
  body : ∀ e ∈ es, w.ownsRow base 5 1 (.slice e.a e.l.length e.c) e.l.length (bcells e.l)
theorem OwnE.below {w w' : World} {base : Nat} {a : Option Addr} {c : Nat} {es : List Et} (h : OwnE w base a c es) (hb : Below w.heap.size w w') : OwnE w' base a c es := ⟨own_below h.row hb, fun e he => own_below (h.body e he) hb⟩
theorem OwnE.mono {w : World} {base base' : Nat} {a : Option Addr} {c : Nat} {es : List Et} (h : OwnE w base a c es) (hb : base' ≤ base) : OwnE w base' a c es := ⟨own_mono h.row hb, fun e he => own_mono (h.body e he) hb⟩
theorem ownE_nil (w : World) (base : Nat) : OwnE w base none 0 [] := ⟨World.ownsRow_nil _ _ _ _, by simp⟩
theorem OwnE.rows {w : World} {base : Nat} {a : Option Addr} {c : Nat} {es : List Et} (h : OwnE w base a c es) (hl : es.length ≤ 1099511627776) (hv : ∀ e ∈ es, e.l.length ≤ 140737488355328) : RowE w a es := by
  refine ⟨own_rows ecells_len h.row, fun e he => ?_, hl⟩
  obtain ⟨ao, cap, e1, h1, h2, h3⟩ := owned_lie (h.body e he)
  simp only [Value.slice.injEq, true_and] at e1
  obtain ⟨rfl, rfl⟩ := e1
  exact ⟨h2, h1, hv e he⟩

def sameE (x y : Int × List Nat) : Bool := x.1 == y.1 && sameB x.2 y.2
theorem sameE_self (x : Int × List Nat) : sameE x x = true := by simp [sameE, sameB]
theorem entry_any (w : World) (s s' : Int) (l l' : List Nat) (a a' : Option Addr) (c c' : Nat) (hl : l.length ≤ 140737488355328) (hx : Lie w a (bcells l)) (hy : Lie w a' (bcells l')) :
    Calls Try.prog 43 #[.agg #[.int .i64 s, .slice a l.length c], .agg #[.int .i64 s', .slice a' l'.length c']] w fun e w' => e = .returned (.bool (sameE (s, l) (s', l'))) ∧ Below w.heap.size w w' := by
  obtain ⟨w2, hw2⟩ : ∃ w2 : World, w2 = (w.alloc (.cells #[.int .i64 s, .slice a l.length c] 39)).alloc (.cells #[.int .i64 s', .slice a' l'.length c'] 39) := ⟨_, rfl⟩
  have hB2 : Below w.heap.size w w2 := by rw [hw2]; exact below_new2 _ _ _
  have HC := Lib.hid (bytes_any l l' a a' c c' w2 (by omega) (hx.below hB2) (hy.below hB2))
  have HB2 := Lib.hid hB2
  have HW := Lib.hid hw2
  have hsv : sameE (s, l) (s', l') = (s == s' && sameB l l') := rfl
  rw [hsv]
  clear hx hy hB2 hw2 hsv
  by_cases h1 : s = s'
  · subst h1
    go_enter Try.func43, Try.ntmps43
    go_wp2_with fail
    rw [← HW.out]
    refine HC.out.mono ?_; rintro e w3 ⟨rfl, hb3⟩
    go_wp2_with fail
    go_ret
    exact ⟨by simp, below_step HB2.out hb3⟩
  · have e1 : (s == s') = false := by simpa using h1
    go_enter Try.func43, Try.ntmps43
    go_wp2_with fail
    rw [← HW.out]
    go_ret
    exact ⟨by simp [e1], HB2.out⟩

theorem same_ents (w : World) (a a' : Option Addr) (c c' : Nat) (es fs : List Et) (hu : RowE w a es) (hv : RowE w a' fs) (he : es.map le = fs.map le) :
    Calls Try.prog 42 #[.slice a es.length c, .slice a' fs.length c', .func (.func 43) #[] #[]] w fun e w' => e = .returned (.bool true) ∧ Below w.heap.size w w' := by
  have hlen : fs.length = es.length := by have h := congrArg List.length he; rw [List.length_map, List.length_map] at h; exact h.symm
  have hel := hu.len
  have HU := Lib.hid (fun (wr : World) (hb : Below w.heap.size w wr) k hk => (hu.below hb).cells k hk)
  have HV := Lib.hid (fun (wr : World) (hb : Below w.heap.size w wr) k hk => (hv.below hb).cells k hk)
  have HS : Hid (∀ (wr : World), Below w.heap.size w wr → ∀ k (hk : k < es.length) (hk' : k < fs.length), Calls Try.prog 43 #[.agg #[.int .i64 es[k].s, .slice es[k].a es[k].l.length es[k].c], .agg #[.int .i64 fs[k].s, .slice fs[k].a fs[k].l.length fs[k].c]] wr fun e w' => e = .returned (.bool true) ∧ Below wr.heap.size wr w') := by
    intro wr hb k hk hk'
    have h1 := (hu.below hb).lie _ (List.getElem_mem hk)
    have h2 := (hv.below hb).lie _ (List.getElem_mem hk')
    have h := entry_any wr es[k].s fs[k].s es[k].l fs[k].l es[k].a fs[k].a es[k].c fs[k].c h1.2.2 h1.1 h2.1
    have e : le es[k] = le fs[k] := by
      have e1 : (es.map le)[k]? = (fs.map le)[k]? := by rw [he]
      simpa [hk, hk'] using e1
    have e2 : sameE (es[k].s, es[k].l) (fs[k].s, fs[k].l) = true := by
      show sameE (le es[k]) (le fs[k]) = true
      rw [e]; exact sameE_self _
    rwa [e2] at h
  clear hu hv he
  rw [hlen]
  have hlen' := Lib.hid hlen
  clear hlen
  go_enter Try.func42, Try.ntmps42
  go_wp2_with fail
  go_loopw [7] (fun i wr => ∃ k : Nat, k ≤ es.length ∧ i = .int .i64 k ∧ Hid (Below w.heap.size w wr)) (fun i _ => es.length - (RowKit.intOf i).toNat)
  case atStart => exact ⟨0, Nat.zero_le _, rfl, Below.refl _ _⟩
  case round =>
    obtain ⟨k, hk, rfl, hB⟩ := hrel
    by_cases hlt : k < es.length
    · have hlt' : k < fs.length := by rw [hlen'.out]; exact hlt
      have hBd := below_step hB.out (below_drewN (Below.refl _ wr) 1)
      obtain ⟨g, off, rfl, hgz, q0, q1⟩ := HU.out wr hB.out k hlt
      obtain ⟨g', off', rfl, hgz', p0, p1⟩ := HV.out wr hB.out k hlt'
      have HC := Lib.hid (HS.out _ hBd k hlt hlt')
      have HBd := Lib.hid hBd
      obtain ⟨r, hr⟩ : ∃ r, r = fs[k] := ⟨_, rfl⟩
      obtain ⟨p, hp⟩ : ∃ p, p = es[k] := ⟨_, rfl⟩
      rw [← hr] at p0 p1 HC
      rw [← hp] at q0 q1 HC
      clear hBd hr hp hlt'
      go_wp2_with fail
      go_still_tail 9, (by kernel_rfl)
      change wpList _ _ _ _ _ wr.drew
      go_wp2_with fail
      refine HC.out.mono ?_; rintro e w4 ⟨rfl, hb4⟩
      have HB4 := Lib.hid (below_step HBd.out hb4)
      clear hb4
      go_wp2_with fail
      go_roundw
      case rel => exact ⟨k + 1, by omega, by go_num, HB4⟩
      case measure => simp [RowKit.intOf]; omega
    · obtain rfl : k = es.length := by omega
      go_wp2_with fail
      go_ret
      exact ⟨rfl, hB.out⟩
theorem entries_eq (w : World) (a a' : Option Addr) (c c' : Nat) (es fs : List Et) (hu : RowE w a es) (hv : RowE w a' fs) (he : es.map le = fs.map le) :
    Calls Try.prog 15 #[.slice a es.length c, .slice a' fs.length c'] w fun e w' => e = .returned (.bool true) ∧ Below w.heap.size w w' := by
  have HS := Lib.hid (same_ents w a a' c c' es fs hu hv he)
  clear hu hv he
  go_enter Try.func15, Try.ntmps15
  go_wp2_with fail
  refine HS.out.mono ?_; rintro e w1 ⟨rfl, hb1⟩
  go_wp2_with fail
  go_ret
  exact ⟨rfl, hb1⟩
end Go.Proofs.Ytodoncmielfbeaa.che
