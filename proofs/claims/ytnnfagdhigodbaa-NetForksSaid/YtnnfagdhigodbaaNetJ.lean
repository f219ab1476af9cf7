/-
  Rows of packets beside a net: neither is written where the other lies.
-/
import Derived.Test.YtnnfagdhigodbaaNetH
import Derived.Test.YtnnfagdhigodbaaKit4
namespace Go.Proofs.Ytnnfagdhigodbaa.netj
open Go.ChangeShapes Go.WideShapes Go.ChangeAt Go.RowKit Go.Shelf
open Go.Proofs.Ytnnfagdhigodbaa.kit Go.Proofs.Ytnnfagdhigodbaa.byt Go.Proofs.Ytnnfagdhigodbaa.netc Go.Proofs.Ytnnfagdhigodbaa.netg Go.Proofs.Ytnnfagdhigodbaa.nets Go.Proofs.Ytnnfagdhigodbaa.nett Go.Proofs.Ytnnfagdhigodbaa.nete Go.Proofs.Ytnnfagdhigodbaa.netf Go.Proofs.Ytnnfagdhigodbaa.netq Go.Proofs.Ytnnfagdhigodbaa.netl Go.Proofs.Ytnnfagdhigodbaa.neti Go.Proofs.Ytnnfagdhigodbaa.neto Go.Proofs.Ytnnfagdhigodbaa.neth
set_option linter.unusedVariables false
set_option linter.unusedSimpArgs false
set_option maxHeartbeats 1000000
set_option maxRecDepth 100000

theorem foot_lt {w : World} {base b : Nat} {nodes : Int} {ps : List Pkt} {S : Cuts} (h : NetAt w base b nodes ps S) {k : Nat} (hf : Foot w b k) : k < w.heap.size ∧ ∀ cur, w.heap[k]? ≠ some (.cells cur 5 (0, 0)) := by
  obtain ⟨h1, ⟨a, c, mb, h2, h3, h4, h5⟩, h6⟩ := h
  rcases (foot_map h2 k).1 hf with rfl | h | rfl
  · exact ⟨(blk h2).2.2, fun cur e => by rw [h2] at e; simp at e⟩
  · obtain ⟨cur, hcur⟩ := own_heap h5 k h
    exact ⟨(blk hcur).2.2, fun cur e => by rw [hcur] at e; simp at e⟩
  · obtain ⟨es, cl, hm, _⟩ := h4
    exact ⟨(Array.getElem?_eq_some_iff.1 hm).1, fun cur e => by rw [hm] at e; simp at e⟩
theorem NetAt.keep {w w' : World} {base b : Nat} {nodes : Int} {ps : List Pkt} {S : Cuts} (h : NetAt w base b nodes ps S) (hk : ∀ k, Foot w b k → w'.heap[k]? = w.heap[k]?) (hb : ∀ p ∈ ps, ∀ g, p.a = some ⟨g, 0, none⟩ → w'.heap[g]? = w.heap[g]?) : NetAt w' base b nodes ps S := by
  obtain ⟨h1, ⟨a, c, mb, h2, h3, h4, h5⟩, h6⟩ := h
  obtain ⟨es, cl, hm, hm2⟩ := h4
  exact ⟨h1, ⟨a, c, mb, (hk b (.inl rfl)).trans h2, h3, ⟨es, cl, (hk mb ((foot_map h2 mb).2 (.inr (.inr rfl)))).trans hm, hm2⟩, own_kept h5 (fun g hg => hk g ((foot_map h2 g).2 (.inr (.inl hg))))⟩, fun p hp => own_kept (h6 p hp) (hb p hp)⟩

/-- A packet whose bytes nobody writes: in a block of its own, or older than all. -/
def Fix (w : World) (base : Nat) (p : Pkt) : Prop := Body w base p ∨ (Rd w p ∧ (p.l = [] ∨ ∀ g o s, p.a = some ⟨g, o, s⟩ → g < base))
theorem Fix.rd {w : World} {base : Nat} {p : Pkt} (h : Fix w base p) : Rd w p := by
  rcases h with h | h
  · exact body_rd h
  · exact h.1
theorem Fix.below {w w' : World} {base : Nat} {p : Pkt} (h : Fix w base p) (hb : Below w.heap.size w w') : Fix w' base p := by
  rcases h with h | h
  · exact .inl (own_below h hb)
  · exact .inr ⟨h.1.below hb, h.2⟩
theorem lie_low {w w' : World} {base : Nat} {a : Option Addr} {cs : List Value} (h : Lie w a cs) (hb : Below base w w') (hl : cs = [] ∨ ∀ g o s, a = some ⟨g, o, s⟩ → g < base) : Lie w' a cs := by
  rcases h with h | ⟨g, off, e, hz, hc⟩
  · exact .inl h
  rcases hl with hl | hl
  · exact .inl hl
  · have e1 := hb.block g (hl g off none e)
    refine .inr ⟨g, off, e, Nat.lt_of_lt_of_le hz hb.size, fun i hi => ?_⟩
    rw [← hc i hi]
    simp [World.cell?, e1]
theorem Fix.keep {w w' : World} {base : Nat} {p : Pkt} (h : Fix w base p) (hb : Below base w w') (hk : ∀ (g : Nat) (cur : Array Value), w.heap[g]? = some (Obj.cells cur 5 (0, 0)) → w'.heap[g]? = w.heap[g]?) : Fix w' base p := by
  rcases h with h | h
  · refine .inl (own_kept h (fun g hg => ?_))
    obtain ⟨cur, hcur⟩ := own_heap h g hg
    exact hk g cur hcur
  · exact .inr ⟨⟨lie_low h.1.1 hb (h.2.imp (fun e => by rw [e]; rfl) id), h.1.2⟩, h.2⟩
theorem moved_u8 {w w' : World} {base b : Nat} {nodes : Int} {ps : List Pkt} {S : Cuts} (hN : NetAt w base b nodes ps S) (hm : Moved w w' b) : ∀ (g : Nat) (cur : Array Value), w.heap[g]? = some (Obj.cells cur 5 (0, 0)) → w'.heap[g]? = w.heap[g]? :=
  fun g cur h => hm.kept g (blk h).2.2 (fun hf => (foot_lt hN hf).2 cur h)

/-- A row of packets beside the net at b. -/
structure RowF (w : World) (base b : Nat) (v : Value) (ps : List Pkt) : Prop where
  row : ∃ a c, v = .slice a ps.length c ∧ w.ownsRow base 48 3 (.slice a ps.length c) ps.length (pkcells ps)
  off : ∀ g, v.ownBlock = some g → ¬ Foot w b g
  fix : ∀ p ∈ ps, Fix w base p
theorem RowF.rowp {w : World} {base b : Nat} {v : Value} {ps : List Pkt} (h : RowF w base b v ps) : RowP w v ps := by
  obtain ⟨⟨a, c, h1, h2⟩, _, h3⟩ := h
  exact ⟨⟨base, a, c, h1, h2⟩, fun p hp => (h3 p hp).rd⟩
theorem RowF.start (w : World) (base b : Nat) : RowF w base b (.slice none 0 0) [] := ⟨⟨none, 0, rfl, World.ownsRow_nil _ _ _ _⟩, fun g h => by simp [Value.ownBlock] at h, by simp⟩
theorem RowF.lt {w : World} {base b : Nat} {v : Value} {ps : List Pkt} (h : RowF w base b v ps) {g : Nat} (hg : v.ownBlock = some g) : g < w.heap.size ∧ ∃ cur, w.heap[g]? = some (.cells cur 48 (0, 0)) := by
  obtain ⟨⟨a, c, rfl, h2⟩, _, _⟩ := h
  have e := own_block h2 g hg
  obtain ⟨cur, hcur⟩ := own_heap h2 g e
  exact ⟨(blk hcur).2.2, cur, hcur⟩
theorem RowF.below {w w' : World} {base b : Nat} {v : Value} {ps : List Pkt} (h : RowF w base b v ps) (hb : Below w.heap.size w w') (hbs : b < w.heap.size) : RowF w' base b v ps := by
  obtain ⟨⟨a, c, h1, h2⟩, h3, h4⟩ := h
  exact ⟨⟨a, c, h1, own_below h2 hb⟩, fun g hg hf => h3 g hg ((foot_same (hb.block b hbs) g).1 hf), fun p hp => (h4 p hp).below hb⟩
theorem RowF.moved {w w' : World} {base b : Nat} {nodes : Int} {ps rs : List Pkt} {S : Cuts} {v : Value} (h : RowF w base b v rs) (hN : NetAt w base b nodes ps S) (hb : Below base w w') (hm : Moved w w' b) : RowF w' base b v rs := by
  have hlt := fun g (hg : v.ownBlock = some g) => (h.lt hg).1
  obtain ⟨⟨a, c, rfl, h2⟩, h3, h4⟩ := h
  have hown : ∀ g, a = some ⟨g, 0, none⟩ → (Value.slice a rs.length c).ownBlock = some g := fun g hg => by rw [hg]; rfl
  refine ⟨⟨a, c, rfl, own_kept h2 (fun g hg => hm.kept g (hlt g (hown g hg)) (h3 g (hown g hg)))⟩, fun g hg hf => ?_, fun p hp => (h4 p hp).keep hb (moved_u8 hN hm)⟩
  rcases hm.foot g hf with h | h
  · exact h3 g hg h
  · have := hlt g hg; omega
def Dis (u v : Value) : Prop := ∀ g, u.ownBlock = some g → v.ownBlock ≠ some g
theorem Dis.symm {u v : Value} (h : Dis u v) : Dis v u := fun g hg hu => h g hu hg

/-- What an append to one of two rows beside a net leaves. -/
theorem row_push {w w5 : World} {base b : Nat} {nodes : Int} {ps xs ys : List Pkt} {S : Cuts} {u v v5 : Value} {p : Pkt} {o : Obj} (hN : NetAt w base b nodes ps S) (hu : RowF w base b u xs) (hv : RowF w base b v ys) (hd : Dis u v) (hp : Fix w base p) (hbw : base ≤ w.heap.size)
    (hown : w5.ownsRow base 48 3 v5 (xs.length + 1) (pkcells xs ++ p.cells)) (hg : (w.alloc o).grownBy w5 u.ownBlock) (hat : ∀ k, v5.ownBlock = some k → u.ownBlock = some k ∨ (w.alloc o).heap.size ≤ k) :
    NetAt w5 base b nodes ps S ∧ RowF w5 base b v5 (xs ++ [p]) ∧ RowF w5 base b v ys ∧ Dis v5 v ∧ Below base w w5 := by
  have hk : ∀ k, k < w.heap.size → u.ownBlock ≠ some k → w5.heap[k]? = w.heap[k]? := fun k hk hn => (hg.block k (by rw [size_new]; omega) (fun e => hn e.symm)).trans (hp_alloc_old hk)
  have hfoot : ∀ k, Foot w b k → w5.heap[k]? = w.heap[k]? := fun k hf => hk k (foot_lt hN hf).1 (fun e => hu.off k e hf)
  have hu8 : ∀ (g : Nat) (cur : Array Value), w.heap[g]? = some (Obj.cells cur 5 (0, 0)) → w5.heap[g]? = w.heap[g]? := by
    intro g cur hc
    refine hk g (blk hc).2.2 (fun e => ?_)
    obtain ⟨_, cur', hcur⟩ := hu.lt e
    rw [hc] at hcur
    simp at hcur
  have hB : Below base w w5 := ((Below.refl _ w).alloc hbw o).grown hg (by rw [size_new]; omega) (fun j hj => by
    obtain ⟨⟨a, c, rfl, h2⟩, _, _⟩ := hu
    exact (own_from h2 j (own_block h2 j hj)).1)
  have hbf : w5.heap[b]? = w.heap[b]? := hfoot b (.inl rfl)
  have hfix : ∀ r, Fix w base r → Fix w5 base r := fun r hr => hr.keep hB hu8
  refine ⟨NetAt.keep hN hfoot (fun r hr g hgr => ?_), ⟨?_, fun g hg' hf => ?_, fun r hr => ?_⟩, ⟨?_, fun g hg' hf => hv.off g hg' ((foot_same hbf g).1 hf), fun r hr => hfix r (hv.fix r hr)⟩, fun g hg' hv' => ?_, hB⟩
  · obtain ⟨cur, hcur⟩ := own_heap (hN.bodies r hr) g hgr
    exact hu8 g cur hcur
  · obtain ⟨a5, c5, rfl⟩ := own_shape hown
    refine ⟨a5, c5, by rw [List.length_append]; rfl, ?_⟩
    rw [List.length_append, pkcells_append]
    have e : pkcells [p] = p.cells := by simp [pkcells]
    rw [e]
    exact hown
  · have hf' := (foot_same hbf g).1 hf
    rcases hat g hg' with h | h
    · exact hu.off g h hf'
    · have := (foot_lt hN hf').1; rw [size_new] at h; omega
  · rcases List.mem_append.1 hr with hr | hr
    · exact hfix r (hu.fix r hr)
    · rw [List.mem_singleton.1 hr]; exact hfix p hp
  · obtain ⟨⟨a, c, rfl, h2⟩, _, _⟩ := hv
    refine ⟨a, c, rfl, own_kept h2 (fun g hg' => hk g (own_from h2 g hg').2 (fun e => hd g e (by rw [hg']; rfl)))⟩
  · rcases hat g hg' with h | h
    · exact hd g h hv'
    · have := (hv.lt hv').1; rw [size_new] at h; omega

/-- A packet that came in with the arguments. -/
theorem fix_in {w : World} {ad : Option Addr} {l : List Nat} {f t : Int} {c : Nat} (h : Lie w ad (bcells l)) (hl : l.length ≤ 9223372036854775807) : Fix w w.heap.size ⟨f, t, l, ad, c⟩ := by
  refine .inr ⟨⟨h, hl⟩, ?_⟩
  rcases h with h | ⟨b, off, e, hz, _⟩
  · exact .inl (by simpa [bcells] using h)
  · refine .inr fun g o s hg => ?_
    have e' : some (⟨b, off, none⟩ : Addr) = some ⟨g, o, s⟩ := e.symm.trans hg
    simp only [Option.some.injEq, Addr.mk.injEq] at e'
    omega
/-- A net, and two rows beside it. -/
structure Mem (w wr : World) (b : Nat) (m : Int) (u v : Value) (qs : List Q) (S : Cuts) (xs ys : List Pkt) : Prop where
  net : NetIs wr w.heap.size b m qs S
  sent : RowF wr w.heap.size b u xs
  come : RowF wr w.heap.size b v ys
  dis : Dis u v
  below : Below w.heap.size w wr
theorem is_lt {w : World} {base b : Nat} {m : Int} {qs : List Q} {S : Cuts} (h : NetIs w base b m qs S) : b < w.heap.size := by
  obtain ⟨ps, h1, _⟩ := h
  exact h1.lt
theorem Mem.old {w wr w' : World} {b : Nat} {m : Int} {u v : Value} {qs : List Q} {S : Cuts} {xs ys : List Pkt} (h : Mem w wr b m u v qs S xs ys) (hb : Below wr.heap.size wr w') : Mem w w' b m u v qs S xs ys :=
  ⟨h.net.below hb, h.sent.below hb (is_lt h.net), h.come.below hb (is_lt h.net), h.dis, below_step h.below hb⟩
theorem Mem.op {w wr w' : World} {b : Nat} {m : Int} {u v : Value} {qs qs' : List Q} {S S' : Cuts} {xs ys : List Pkt} (h : Mem w wr b m u v qs S xs ys) (hN : NetIs w' w.heap.size b m qs' S') (hb : Below w.heap.size wr w') (hm : Moved wr w' b) : Mem w w' b m u v qs' S' xs ys := by
  obtain ⟨ps, h1, _⟩ := h.net
  exact ⟨hN, h.sent.moved h1 hb hm, h.come.moved h1 hb hm, h.dis, h.below.trans hb⟩
theorem Mem.push {w wr w5 : World} {b : Nat} {m : Int} {u v v5 : Value} {qs : List Q} {S : Cuts} {xs ys : List Pkt} {p : Pkt} {o : Obj} (h : Mem w wr b m u v qs S xs ys) (hp : Fix wr w.heap.size p)
    (hown : w5.ownsRow w.heap.size 48 3 v5 (xs.length + 1) (pkcells xs ++ p.cells)) (hg : (wr.alloc o).grownBy w5 u.ownBlock) (hat : ∀ k, v5.ownBlock = some k → u.ownBlock = some k ∨ (wr.alloc o).heap.size ≤ k) : Mem w w5 b m v5 v qs S (xs ++ [p]) ys := by
  obtain ⟨ps, h1, e⟩ := h.net
  obtain ⟨r1, r2, r3, r4, r5⟩ := row_push h1 h.sent h.come h.dis hp h.below.size hown hg hat
  exact ⟨⟨ps, r1, e⟩, r2, r3, r4, h.below.trans r5⟩
theorem Mem.swap {w wr : World} {b : Nat} {m : Int} {u v : Value} {qs : List Q} {S : Cuts} {xs ys : List Pkt} (h : Mem w wr b m u v qs S xs ys) : Mem w wr b m v u qs S ys xs := ⟨h.net, h.come, h.sent, h.dis.symm, h.below⟩

/-! ### Counting -/
theorem cnt_take {qs : List Q} {i : Int} (h : inQ qs i) (x : Q) : ∃ y, qs[i.toNat]? = some y ∧ cntQ (takeQ qs i) x + (if sameQ y x then 1 else 0) = cntQ qs x := by
  have hi : i.toNat < qs.length := by have := h.1; have := h.2; omega
  refine ⟨qs[i.toNat], List.getElem?_eq_getElem hi, ?_⟩
  rw [takeQ, if_pos h, List.eraseIdx_eq_take_drop_succ]
  have e : qs = qs.take i.toNat ++ qs[i.toNat] :: qs.drop (i.toNat + 1) := by rw [← List.drop_eq_getElem_cons hi, List.take_append_drop]
  conv => rhs; rw [e]
  unfold cntQ
  rw [List.countP_append, List.countP_append, List.countP_cons]
  omega
theorem cnt_take_le (qs : List Q) (i : Int) (x : Q) : cntQ (takeQ qs i) x ≤ cntQ qs x := by
  by_cases h : inQ qs i
  · obtain ⟨y, _, e⟩ := cnt_take h x
    omega
  · rw [takeQ, if_neg h]; exact Nat.le_refl _
theorem cnt_dbl {qs : List Q} {i : Int} (h : dblE qs i = 0) : ∃ y, qs[i.toNat]? = some y ∧ inQ qs i ∧ ∀ x, cntQ (dblQ qs i) x = cntQ qs x + (if sameQ y x then 1 else 0) := by
  unfold dblE at h
  split at h
  · omega
  · next hin =>
    have hin := Decidable.not_not.1 hin
    split at h
    · omega
    · next hf =>
      have hi : i.toNat < qs.length := by have := hin.1; have := hin.2; omega
      refine ⟨qs[i.toNat], List.getElem?_eq_getElem hi, hin, fun x => ?_⟩
      rw [dblQ, if_neg (not_not_intro hin), if_neg hf, List.getElem?_eq_getElem hi]
      exact cntQ_snoc _ _ _
theorem dbl_ne {qs : List Q} {i : Int} (h : dblE qs i ≠ 0) : dblQ qs i = qs := by
  unfold dblE at h
  unfold dblQ
  split
  · rfl
  · next hin =>
    rw [if_neg hin] at h
    split
    · rfl
    · next hf => rw [if_neg hf] at h; omega
theorem cnt_send (nodes : Int) (qs : List Q) (S : Cuts) (a b : Int) (l : List Nat) (x : Q) : cntQ (sendQ nodes qs S a b l) x ≤ cntQ qs x + (if sameQ ⟨a, b, l⟩ x then 1 else 0) := by
  unfold sendQ
  split
  · omega
  · split
    · omega
    · split
      · omega
      · rw [cntQ_snoc]; exact Nat.le_refl _
theorem send_ne {nodes : Int} {qs : List Q} {S : Cuts} {a b : Int} {l : List Nat} (h : sendE nodes qs S a b l.length ≠ 0) : sendQ nodes qs S a b l = qs := by
  unfold sendE at h
  unfold sendQ
  split
  · rfl
  · next hm =>
    rw [if_neg hm] at h
    split
    · rfl
    · next hS =>
      rw [if_neg hS] at h
      split
      · rfl
      · next hf => rw [if_neg hf] at h; omega
end Go.Proofs.Ytnnfagdhigodbaa.netj
