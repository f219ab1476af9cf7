/-
  The leader's cut: the votes by slots, in a map of rows.
-/
import Derived.Test.YtcaakiaenfkeaaaGreatN16
import Derived.Test.YtcaakiaenfkeaaaGreatN09
import Derived.Test.YtcaakiaenfkeaaaGreatN01
import Derived.Deep.RegionHeld3
namespace Go.Proofs.YtcaakiaenfkeaaaGreat.chk
open Go.ChangeShapes Go.WideShapes Go.ChangeAt Go.RowKit
open Go.Maps (Keyed)
open Go.ChangeMaps Go.MapKept
open Go.Proofs.YtcaakiaenfkeaaaGreat.kit Go.Proofs.YtcaakiaenfkeaaaGreat.mapkit Go.Proofs.YtcaakiaenfkeaaaGreat.byt Go.Proofs.YtcaakiaenfkeaaaGreat.own Go.Proofs.YtcaakiaenfkeaaaGreat.accd Go.Proofs.YtcaakiaenfkeaaaGreat.chd Go.Proofs.YtcaakiaenfkeaaaGreat.chr Go.Proofs.YtcaakiaenfkeaaaGreat.che Go.Proofs.YtcaakiaenfkeaaaGreat.chf Go.Proofs.YtcaakiaenfkeaaaGreat.chq Go.Proofs.YtcaakiaenfkeaaaGreat.cho Go.Proofs.YtcaakiaenfkeaaaGreat.chv Go.Proofs.YtcaakiaenfkeaaaGreat.chs
set_option linter.unusedVariables false
set_option linter.unusedSimpArgs false
set_option maxHeartbeats 2000000
set_option maxRecDepth 100000

theorem sortedf_ok (B hi : Nat) (a : Option Addr) (c : Nat) (l : List Pt) (w : World) (hB : B < hi) (hhi : hi ≤ w.heap.size) (hl : l.length ≤ 5) (h : SrcP w hi B a c l) (hnod : ∀ p ∈ l, 1 ≤ p.node ∧ p.node ≤ 5) (hdis : l.Pairwise (fun p q => p.node ≠ q.node)) :
    Calls Tryz.prog 71 #[.func (.func 82) #[] #[.pointer (some ⟨B, 0, none⟩)], .func (.func 73) #[] #[]] w fun e w' =>
      ∃ (a' : Option Addr) (c' : Nat) (r : List Pt), e = .returned (.slice a' l.length c') ∧ r.Perm l ∧ r.Pairwise (fun p q => p.node < q.node) ∧ w'.ownsRow w.heap.size 115 2 (.slice a' l.length c') l.length (pcells r) ∧ Below w.heap.size w w' := by
  have HC := Lib.hid (collect_ok B hi a c l w hB hhi hl h)
  have HN := Lib.hid hnod
  have HD := Lib.hid hdis
  clear h hnod hdis
  go_enter Tryz.func71, Tryz.ntmps71
  go_wp2_with fail
  refine HC.out.mono ?_; rintro e w1 ⟨v, rfl, ho, hb⟩
  obtain ⟨a', c', rfl⟩ := own_shape ho
  have HS := Lib.hid (sort_ok w1 w.heap.size c' a' l hl ho hb.size HN.out HD.out)
  have HB := Lib.hid hb
  clear ho hb
  go_wp2_with fail
  refine HS.out.mono ?_; rintro e w2 ⟨rfl, r, hp, hs, hr, hb2⟩
  have HP := Lib.hid hp
  have HPS := Lib.hid hs
  have HR := Lib.hid hr
  have HB2 := Lib.hid (HB.out.trans hb2)
  clear hp hs hr hb2
  go_wp2_with fail
  go_ret
  exact ⟨a', c', r, rfl, HP.out, HPS.out, HR.out, HB2.out⟩

/-- Where a slot's row lies. -/
structure CutAt (w : World) (base mb : Nat) (g : Int → List Ct) (N : Nat) : Prop where
  ex : ∃ (f : Lit → Option Value) (cnt : Nat) (V : Int → Option Addr × Nat), MapAt w Tryz.prog 3 mb f cnt ∧ cnt ≤ N ∧
    (∀ s, (g s = [] → f (.int .i64 s) = none ∧ V s = (none, 0)) ∧ (g s ≠ [] → f (.int .i64 s) = some (.slice (V s).1 (g s).length (V s).2))) ∧
    (∀ s, w.ownsRow base 141 5 (.slice (V s).1 (g s).length (V s).2) (g s).length ((g s).flatMap ccells)) ∧
    (∀ s t b, s ≠ t → (V s).1 = some ⟨b, 0, none⟩ → (V t).1 ≠ some ⟨b, 0, none⟩)
  lo : base ≤ mb
theorem CutAt.below {w w' : World} {base mb : Nat} {g : Int → List Ct} {N : Nat} (h : CutAt w base mb g N) (hb : Below w.heap.size w w') : CutAt w' base mb g N := by
  obtain ⟨⟨f, cnt, V, h1, h2, h3, h4, h5⟩, h6⟩ := h
  exact ⟨⟨f, cnt, V, h1.below hb, h2, h3, fun s => own_below (h4 s) hb, h5⟩, h6⟩
theorem CutAt.more {w : World} {base mb : Nat} {g : Int → List Ct} {N M : Nat} (h : CutAt w base mb g N) (hm : N ≤ M) : CutAt w base mb g M := by
  obtain ⟨⟨f, cnt, V, h1, h2, h3, h4, h5⟩, h6⟩ := h
  exact ⟨⟨f, cnt, V, h1, by omega, h3, h4, h5⟩, h6⟩
theorem CutAt.lt {w : World} {base mb : Nat} {g : Int → List Ct} {N : Nat} (h : CutAt w base mb g N) : mb < w.heap.size := by
  obtain ⟨⟨f, cnt, V, h1, h2, h3, h4, h5⟩, h6⟩ := h
  exact h1.lt
/-- One more cast at s. -/
def addC (g : Int → List Ct) (s : Int) (x : Ct) : Int → List Ct := fun t => if t = s then g t ++ [x] else g t
theorem cut_start (w : World) : CutAt (w.alloc (.map #[] 0)) w.heap.size w.heap.size (fun _ => []) 0 :=
  ⟨⟨_, 0, fun _ => (none, 0), map_made _ _ _, Nat.le_refl _, fun s => ⟨fun _ => ⟨rfl, rfl⟩, fun h => absurd rfl h⟩, fun s => World.ownsRow_nil _ _ _ _, by simp⟩, Nat.le_refl _⟩
theorem zero_casts (w : World) : (zeroValue 144).run Tryz.prog w = .ok (.slice none 0 0) w := by go_simp
/-- What a lookup gives. -/
theorem CutAt.look {w : World} {base mb : Nat} {g : Int → List Ct} {N : Nat} (h : CutAt w base mb g N) {s : Int} (h1 : -9223372036854775808 ≤ s) (h2 : s ≤ 9223372036854775807) :
    ∃ (a : Option Addr) (c : Nat), w.ownsRow base 141 5 (.slice a (g s).length c) (g s).length ((g s).flatMap ccells) ∧ (∀ w', w'.heap[mb]? = w.heap[mb]? → (Instr.lookup 138 (.map (some mb)) (.int .i64 s) false).run Tryz.prog w' = .ok (.slice a (g s).length c) w') := by
  obtain ⟨⟨f, cnt, V, h1', h2', h3, h4, h5⟩, h6⟩ := h
  refine ⟨(V s).1, (V s).2, h4 s, fun w' hw' => ?_⟩
  have hr := (h1'.to hw').run_look keyedI Tryz.underlying138 (zero_casts w') (key_int h1 h2)
  rw [hr]
  by_cases hg : g s = []
  · obtain ⟨e1, e2⟩ := (h3 s).1 hg
    rw [e1, e2, hg]; rfl
  · rw [(h3 s).2 hg]; rfl
/-- One more cast at a slot: the row behind the append, and the map behind the store. -/
theorem CutAt.step {w w2 : World} {base mb : Nat} {g : Int → List Ct} {N : Nat} (h : CutAt w base mb g N) (hN : N < 100000) {s : Int} (h1 : -9223372036854775808 ≤ s) (h2 : s ≤ 9223372036854775807) {a : Option Addr} {c : Nat} (hlk : (Instr.lookup 138 (.map (some mb)) (.int .i64 s) false).run Tryz.prog w = .ok (.slice a (g s).length c) w)
    {ob : Obj} {v' : Value} {x : Ct} (hown : w2.ownsRow base 141 5 v' ((g s).length + 1) ((g s).flatMap ccells ++ ccells x)) (hg : (w.alloc ob).grownBy w2 (Value.slice a (g s).length c).ownBlock)
    (hat : ∀ k, v'.ownBlock = some k → (Value.slice a (g s).length c).ownBlock = some k ∨ (w.alloc ob).heap.size ≤ k) (hbw : base ≤ w.heap.size) :
    ∃ w3, (Instr.mapUpdate 138 (.map (some mb)) (.int .i64 s) v').run Tryz.prog w2 = .ok () w3 ∧ CutAt w3 base mb (addC g s x) (N + 1) ∧ (∀ (k : Nat) (cs : Array Value) (T : TypeId), T ≠ 141 → w.heap[k]? = some (Obj.cells cs T (0, 0)) → w2.heap[k]? = some (Obj.cells cs T (0, 0)) ∧ w3.heap[k]? = some (Obj.cells cs T (0, 0))) ∧ Keep (fun k => base ≤ k) w w3 := by
  obtain ⟨⟨f, cnt, V, hm, hcn, h3, h4, h5⟩, h6⟩ := h
  have hrl := hm.run_look keyedI Tryz.underlying138 (zero_casts w) (key_int h1 h2)
  have ea : (V s) = (a, c) := by
    rw [hlk] at hrl
    simp only [Result.ok.injEq, and_true] at hrl
    by_cases hg0 : g s = []
    · obtain ⟨e1, e2⟩ := (h3 s).1 hg0
      rw [e1] at hrl
      simp only [Option.getD_none, Value.slice.injEq] at hrl
      rw [e2, hrl.1, hrl.2.2]
    · rw [(h3 s).2 hg0] at hrl
      simp only [Option.getD_some, Value.slice.injEq, true_and] at hrl
      rw [hrl.1, hrl.2]
  have h4s := h4 s
  rw [ea] at h4s
  obtain ⟨a2, c2, rfl⟩ := own_shape hown
  have hmlt := hm.lt
  have hmne : (Value.slice a (g s).length c).ownBlock ≠ some mb := by
    intro e
    have e' := own_block h4s mb e
    obtain ⟨cur, hcur⟩ := own_heap h4s mb e'
    obtain ⟨es, cl, hme⟩ := hm.obj
    rw [hcur] at hme
    simp at hme
  have hm2 : MapAt w2 Tryz.prog 3 mb f cnt := hm.to ((hg.block mb (by rw [size_new]; omega) (fun e => hmne e.symm)).trans (hp_alloc_old hmlt))
  obtain ⟨w3, hrun, hmap, hgr⟩ := hm2.run_store keyedI Tryz.underlying138 (by unfold maxLen; omega) (key_int h1 h2) (val := .slice a2 ((g s).length + 1) c2) (by trivial)
  have hk2 : Keep (fun k => base ≤ k) w w2 := by
    refine ((Keep.refl _ w).alloc ob).trans' (S' := fun k => base ≤ k) ⟨hg.os, hg.tape, hg.output, hg.size, fun k hk hn => hg.block k hk (fun e => ?_)⟩ (fun i hi h => h)
    have := (own_from h4s k (own_block h4s k e.symm)).1
    exact hn this
  have hk3 : Keep (fun k => base ≤ k) w w3 := hk2.trans ⟨hgr.os, hgr.tape, hgr.output, hgr.size, fun k hk hn => hgr.block k hk (fun e => by simp at e; subst e; exact hn h6)⟩
  have hkt : ∀ (k : Nat) (cs : Array Value) (T : TypeId), T ≠ 141 → w.heap[k]? = some (Obj.cells cs T (0, 0)) → w2.heap[k]? = some (Obj.cells cs T (0, 0)) ∧ w3.heap[k]? = some (Obj.cells cs T (0, 0)) := by
    intro k cs T hT hk
    have hkz := (kit.blk hk).2.2
    have hkm : k ≠ mb := by
      rintro rfl
      obtain ⟨es, cl, hme⟩ := hm.obj
      rw [hk] at hme
      simp at hme
    have hks : (Value.slice a (g s).length c).ownBlock ≠ some k := by
      intro e'
      have := own_block h4s k e'
      obtain ⟨cur, hcur⟩ := own_heap h4s k this
      rw [hk] at hcur
      simp at hcur
      exact hT hcur.2
    have h9 : w2.heap[k]? = some (Obj.cells cs T (0, 0)) := (hg.block k (by rw [size_new]; omega) (fun e => hks e.symm)).trans ((hp_alloc_old hkz).trans hk)
    refine ⟨h9, (hgr.block k ?_ (fun e => hkm (Option.some.inj e))).trans h9⟩
    have := hg.size
    rw [size_new] at this
    omega
  refine ⟨w3, hrun, ⟨⟨_, _, fun t => if t = s then (a2, c2) else V t, hmap, ?_, fun t => ?_, fun t => ?_, fun t u b hne => ?_⟩, h6⟩, hkt, hk3⟩
  · split <;> omega
  · by_cases e : t = s
    · subst e
      refine ⟨fun hh => ?_, fun _ => ?_⟩
      · simp [addC] at hh
      · simp [addC, upd, Lit.sameKey]
    · have hsk : (Lit.int .i64 t).sameKey (.int .i64 s) = false := by simp [Lit.sameKey, e]
      simp only [addC, if_neg e, upd, hsk]
      simpa using h3 t
  · by_cases e : t = s
    · subst e
      simp only [addC, if_pos rfl]
      have h7 : w3.ownsRow base 141 5 (.slice a2 ((g t).length + 1) c2) ((g t).length + 1) ((g t).flatMap ccells ++ ccells x) := own_kept hown (fun k hk => hgr.block k (own_from hown k hk).2 (fun e => by
        simp at e; subst e
        obtain ⟨cur, hcur⟩ := own_heap hown k hk
        obtain ⟨es, cl, hme⟩ := hm2.obj
        rw [hcur] at hme
        simp at hme))
      simpa using h7
    · simp only [addC, if_neg e]
      refine own_kept (h4 t) (fun k hk => ?_)
      have hkz := (own_from (h4 t) k hk).2
      have hkm : k ≠ mb := by
        rintro rfl
        obtain ⟨cur, hcur⟩ := own_heap (h4 t) k hk
        obtain ⟨es, cl, hme⟩ := hm.obj
        rw [hcur] at hme
        simp at hme
      have hks : (Value.slice a (g s).length c).ownBlock ≠ some k := by
        intro e'
        have := own_block h4s k e'
        exact h5 s t k (Ne.symm e) (by rw [ea]; exact this) hk
      refine (hgr.block k ?_ (fun e => hkm (Option.some.inj e))).trans ((hg.block k (by rw [size_new]; omega) (fun e => hks e.symm)).trans (hp_alloc_old hkz))
      have := hg.size
      rw [size_new] at this
      omega
  · have key : ∀ t b, t ≠ s → a2 = some ⟨b, 0, none⟩ → (V t).1 ≠ some ⟨b, 0, none⟩ := by
      intro t b ht ha hv
      have hkz := (own_from (h4 t) b hv).2
      rcases hat b (by rw [ha]; rfl) with h7 | h7
      · exact h5 s t b (Ne.symm ht) (by rw [ea]; exact own_block h4s b h7) hv
      · rw [size_new] at h7; omega
    by_cases e1 : t = s
    · by_cases e2 : u = s
      · exact absurd (e1.trans e2.symm) hne
      · simp only [if_pos e1, if_neg e2]
        exact key u b e2
    · by_cases e2 : u = s
      · simp only [if_neg e1, if_pos e2]
        intro h8 h9
        exact key t b e1 h9 h8
      · simp only [if_neg e1, if_neg e2]
        exact h5 t u b hne

/-- The votes by slots, as far as they are cut. -/
def cutG (r : List Pt) (i : Nat) (s : Int) : List Ct := (r.take i).flatMap (atT s)
def cutJ (r : List Pt) (i : Nat) (p : Pt) (j : Nat) (s : Int) : List Ct := cutG r i s ++ inP p.node s p j
theorem cutJ_zero (r : List Pt) (i : Nat) (p : Pt) : cutJ r i p 0 = cutG r i := by funext s; simp [cutJ, inP]
theorem cutJ_step (r : List Pt) (i : Nat) (p : Pt) (j : Nat) (hj : j < p.vs.length) : addC (cutJ r i p j) p.vs[j].s (p.node, p.vs[j]) = cutJ r i p (j + 1) := by
  funext s
  unfold addC cutJ
  by_cases h : s = p.vs[j].s
  · rw [if_pos h, inP_put hj rfl h.symm, List.append_assoc]
  · rw [if_neg h, inP_skip hj (fun e => h e.symm)]
theorem cutJ_full (r : List Pt) (i : Nat) (hi : i < r.length) : cutJ r i r[i] r[i].vs.length = cutG r (i + 1) := by
  funext s
  unfold cutJ cutG
  rw [inP_full, if_pos rfl, List.take_succ_eq_append_getElem hi, List.flatMap_append]
  simp
theorem cutG_full (r : List Pt) : cutG r r.length = fun s => r.flatMap (atT s) := by funext s; unfold cutG; rw [List.take_length]
theorem cutJ_len {r : List Pt} {i : Nat} {p : Pt} {j : Nat} (h16 : ∀ q ∈ r, q.vs.length ≤ 16) (hi : i ≤ 5) (hj : j ≤ 16) (s : Int) : (cutJ r i p j s).length ≤ 96 := by
  unfold cutJ cutG
  rw [List.length_append]
  have h1 := inP_len p.node s p j
  have h2 : ∀ L : List Pt, (∀ q ∈ L, q.vs.length ≤ 16) → (L.flatMap (atT s)).length ≤ 16 * L.length := by
    intro L
    induction L with
    | nil => intro _; simp
    | cons q L ih =>
      intro h
      have h3 := ih (fun x hx => h x (List.mem_cons_of_mem _ hx))
      have h4 : (atT s q).length ≤ q.vs.length := by unfold atT; rw [List.length_map]; exact List.length_filter_le _ _
      have h5 := h q List.mem_cons_self
      rw [List.flatMap_cons, List.length_append, List.length_cons]
      omega
  have h3 := h2 (r.take i) (fun q hq => h16 q (List.mem_of_mem_take hq))
  rw [List.length_take] at h3
  omega
theorem infoCastC : (Tryz.prog.info? 141).map (fun i => (i.zero, i.size, i.bytes)) = some (some (.agg #[.int .i64 0, .int .i64 0, .int .i64 0, .int .i64 0, .slice none 0 0]), 5, 56) := by kernel_rfl
theorem pt_row {w : World} {base c : Nat} {a : Option Addr} {r : List Pt} (h : w.ownsRow base 115 2 (.slice a r.length c) r.length (pcells r)) {k : Nat} (hk : k < r.length) :
    ∃ g, a = some ⟨g, 0, none⟩ ∧ g < w.heap.size ∧ w.cell? ⟨g, k * 2, none⟩ = some (.int .i64 r[k].node) ∧ w.cell? ⟨g, k * 2 + 1, none⟩ = some (.slice r[k].a r[k].vs.length r[k].c) := by
  obtain ⟨g, rfl⟩ := own_ptr h (by omega)
  rcases own_rows pcells_len h with h0 | ⟨b, off, e, hz, hc⟩
  · have : r = [] := by simpa using h0
    subst this; simp at hk
  · simp only [Option.some.injEq, Addr.mk.injEq, and_true] at e
    obtain ⟨rfl, rfl⟩ := e
    have hi : k < (r.map Pt.cells).length := by simpa using hk
    have e0 := hc k hi 0 (by omega)
    have e1 := hc k hi 1 (by omega)
    simp only [List.getElem_map, Nat.add_zero, Nat.zero_add] at e0 e1
    exact ⟨g, rfl, hz, e0.trans rfl, e1.trans rfl⟩
theorem right_pts {nodes : Int} {l : List Pt} (h : chp.Right nodes (l.map pv)) : (∀ p ∈ l, 1 ≤ p.node ∧ p.node ≤ 5) ∧ l.Pairwise (fun p q => p.node ≠ q.node) ∧ (∀ p ∈ l, ∀ v ∈ p.vs, 1 ≤ v.s ∧ v.s ≤ 1099511627776) := by
  refine ⟨fun p hp => ?_, ?_, fun p hp v hv => ?_⟩
  · have := (prOk_iff.1 (h.2.1 _ (List.mem_map_of_mem hp))).1
    have h5 := h.1
    simp only [pv] at this
    omega
  · have := h.2.2
    rw [List.pairwise_map] at this
    exact this
  · have := (chp.lastOk_lt (prOk_iff.1 (h.2.1 _ (List.mem_map_of_mem hp))).2.2).1 (vv v) (List.mem_map_of_mem hv)
    simp only [vv] at this
    omega

theorem size_up {W : World} {o : Obj} {n : Nat} (h : n ≤ W.heap.size) : n ≤ (W.alloc o).drew.heap.size := by
  show n ≤ (W.alloc o).heap.size
  rw [size_new]; exact Nat.le_succ_of_le h
theorem cell_new {W : World} {a : Addr} {u : Value} {o : Obj} (h : W.cell? a = some u) : (W.alloc o).drew.cell? a = some u := by
  show (W.alloc o).cell? a = some u
  exact cell_step h (below_new1 W o)
theorem own_new {W : World} {base : Nat} {e : TypeId} {size : Nat} {v : Value} {n : Nat} {xs : List Value} (h : W.ownsRow base e size v n xs) (o : Obj) : (W.alloc o).drew.ownsRow base e size v n xs := h.alloc o
theorem cut_ok (w : World) (nodes : Int) (a : Option Addr) (c : Nat) (l : List Pt) (h : RowP w a l) (hr : chp.Right nodes (l.map pv)) :
    Calls Tryz.prog 62 #[.slice a l.length c] w fun e w' => ∃ (mb : Nat) (r : List Pt), e = .returned (.map (some mb)) ∧ r.Perm l ∧ r.Pairwise (fun p q => p.node < q.node) ∧ CutAt w' w.heap.size mb (fun s => r.flatMap (atT s)) 80 ∧ Below w.heap.size w w' := by
  obtain ⟨j0, hj, hy0, hy1, hy2⟩ := info_parts infoCastC
  obtain ⟨hl5, h16⟩ := right_size hr
  obtain ⟨hnod, hdis, hslot⟩ := right_pts hr
  obtain ⟨w2, hw2⟩ : ∃ w2 : World, w2 = (w.alloc (.map #[] 0)).alloc (.cells #[.slice a l.length c] 113) := ⟨_, rfl⟩
  have hB2 : Below w.heap.size w w2 := by rw [hw2]; exact below_new2 _ _ _
  have hn2 := new2 w (.map #[] 0) (.cells #[.slice a l.length c] 113)
  rw [← hw2] at hn2
  obtain ⟨-, n1, hs2⟩ := hn2
  have hcut2 : CutAt w2 w.heap.size w.heap.size (fun _ => []) 0 := by rw [hw2]; exact (cut_start w).below (below_new1 _ _)
  have hsrc : SrcP w2 (w.heap.size + 2) (w.heap.size + 1) a c l := ⟨(blk1 n1).1, fun k hk => by
    obtain ⟨g, off, e, hgz, h0, h1⟩ := h.cells k hk
    exact ⟨g, off, e, by omega, (hB2.cell (p := ⟨g, _, none⟩) hgz).trans h0, (hB2.cell (p := ⟨g, _, none⟩) hgz).trans h1⟩⟩
  have HSF := Lib.hid (sortedf_ok (w.heap.size + 1) (w.heap.size + 2) a c l w2 (by omega) (by omega) hl5 hsrc hnod hdis)
  have HB2 := Lib.hid hB2
  have HC2 := Lib.hid hcut2
  have HW2 := Lib.hid hw2
  have HH := Lib.hid (fun (wr : World) (hb : Below w.heap.size w wr) => h.below hb)
  have H16 := Lib.hid h16
  have HSL := Lib.hid hslot
  have HV := Lib.hid (values_ok a l.length c (w.alloc (.map #[] 0)))
  clear h hr hnod hdis hB2 n1 hs2 hcut2 hsrc hw2 h16 hslot
  have hmm := @run_makeMap Tryz.prog
  go_enter Tryz.func62, Tryz.ntmps62
  go_wp2_with fail
  refine HV.out.mono ?_; rintro e w1 ⟨rfl, hw1⟩
  rw [← HW2.out] at hw1
  subst hw1
  clear HV hmm
  go_wp2_with fail
  refine HSF.out.mono ?_; rintro e w3 ⟨a', c', r, rfl, hrp, hrs, hrow, hb3⟩
  have hrl : r.length = l.length := hrp.length_eq
  rw [← hrl] at hrow hl5 ⊢
  have HRP := Lib.hid hrp
  have HRS := Lib.hid hrs
  have HROW := Lib.hid (own_mono hrow HB2.out.size)
  have HB3 := Lib.hid (below_step HB2.out hb3)
  have HC3 := Lib.hid (HC2.out.below hb3)
  have H16r : Hid (∀ q ∈ r, q.vs.length ≤ 16) := fun q hq => H16.out q (hrp.mem_iff.1 hq)
  have HSLr : Hid (∀ q ∈ r, ∀ v ∈ q.vs, 1 ≤ v.s ∧ v.s ≤ 1099511627776) := fun q hq => HSL.out q (hrp.mem_iff.1 hq)
  have HGr : Hid (∀ (wx : World), Below w.heap.size w wx → ∀ q ∈ r, GoodP wx q) := fun wx hb q hq => (HH.out wx hb).good q (hrp.mem_iff.1 hq)
  clear hrp hrs hrow hb3 HSF HC2 H16 HSL hrl
  go_wp2_with fail
  go_loopw [13] (fun i wr => ∃ k : Nat, k ≤ r.length ∧ i = .int .i64 k ∧ Hid (CutAt wr w.heap.size w.heap.size (cutG r k) (16 * k)) ∧ Hid (Below w.heap.size w wr) ∧ Hid (wr.ownsRow w.heap.size 115 2 (.slice a' r.length c') r.length (pcells r))) (fun i _ => r.length - (intOf i).toNat)
  case atStart => exact ⟨0, Nat.zero_le _, rfl, HC3, HB3, HROW⟩
  case round =>
    obtain ⟨k, hk, rfl, HC, HB, HR⟩ := hrel
    by_cases hlt : k < r.length
    · obtain ⟨g, rfl, hgz, x0, x1⟩ := pt_row HR.out hlt
      have hgp := fun (wx : World) (hb : Below w.heap.size w wx) => HGr.out wx hb _ (List.getElem_mem hlt)
      have hp16 := H16r.out _ (List.getElem_mem hlt)
      have hps := HSLr.out _ (List.getElem_mem hlt)
      have hfull := cutJ_full r k hlt
      obtain ⟨p, hp⟩ : ∃ p, p = r[k] := ⟨_, rfl⟩
      rw [← hp] at x0 x1 hgp hp16 hps hfull
      obtain ⟨w5, hw5⟩ : ∃ w5, w5 = wr.alloc (.cells #[.int .i64 p.node, .slice p.a p.vs.length p.c] 115) := ⟨_, rfl⟩
      have hn5 : w5.heap[wr.heap.size]? = some (.cells #[.int .i64 p.node, .slice p.a p.vs.length p.c] 115 (0, 0)) := by rw [hw5]; exact hp_alloc_new _ _
      have hb5 : Below wr.heap.size wr w5 := by rw [hw5]; exact below_new1 _ _
      obtain ⟨pb, hpb⟩ : ∃ pb, pb = wr.heap.size := ⟨_, rfl⟩
      rw [← hpb] at hn5
      obtain ⟨y0, y1, fy0, fy1, yz⟩ := blk2 hn5
      have HGP := Lib.hid hgp
      have HPS := Lib.hid hps
      have HFULL := Lib.hid hfull
      have HN5 := Lib.hid hn5
      have HB5 := Lib.hid (below_step HB.out hb5)
      have HR5 := Lib.hid (own_below HR.out hb5)
      have HC5 : Hid (CutAt w5 w.heap.size w.heap.size (cutJ r k p 0) (16 * k + 0)) := by
        simp only [Hid]; rw [cutJ_zero]; exact HC.out.below hb5
      have HW5 := Lib.hid hw5
      have HPB := Lib.hid hpb
      clear hgp hps hfull hp hw5 hn5 hb5 hpb
      go_upto_region 6 with fail
      rw [← HW5.out, ← HPB.out]
      clear HW5 HPB x0 x1 hgz
      go_loopw [20] (fun i wi => ∃ j : Nat, j ≤ p.vs.length ∧ i = .int .i64 j ∧ Hid (CutAt wi w.heap.size w.heap.size (cutJ r k p j) (16 * k + j)) ∧ Hid (Below w.heap.size w wi) ∧ Hid (wi.ownsRow w.heap.size 115 2 (.slice (some ⟨g, 0, none⟩) r.length c') r.length (pcells r)) ∧ Hid (wi.heap[pb]? = some (.cells #[.int .i64 p.node, .slice p.a p.vs.length p.c] 115 (0, 0)))) (fun i _ => p.vs.length - (intOf i).toNat)
      case atStart => exact ⟨0, Nat.zero_le _, rfl, HC5, HB5, HR5, HN5⟩
      case round =>
        obtain ⟨wi, rfl⟩ : ∃ wi : World, wi = wr := ⟨_, rfl⟩
        obtain ⟨j, hj', rfl, HCi, HBi, HRi, HPi⟩ := hrel
        by_cases hjt : j < p.vs.length
        · have hgw := HGP.out wi HBi.out
          obtain ⟨g2, off2, e2, hgz2, v0, v1, v2, v3⟩ := hgw.row.cells j hjt
          have hvr := HPS.out _ (List.getElem_mem hjt)
          have hstep := cutJ_step r k p j hjt
          have hlen := cutJ_len (r := r) (p := p) (j := j) H16r.out (show k ≤ 5 by omega) (show j ≤ 16 by omega) p.vs[j].s
          obtain ⟨v, hv⟩ : ∃ v, v = p.vs[j] := ⟨_, rfl⟩
          rw [← hv] at v0 v1 v2 v3 hvr hstep hlen
          obtain ⟨w7, hw7⟩ : ∃ w7, w7 = wi.alloc (.cells #[.int .i64 v.s, .int .i64 v.r, .int .i64 v.n, .slice v.a v.l.length v.c] 45) := ⟨_, rfl⟩
          have hn7 : w7.heap[wi.heap.size]? = some (.cells #[.int .i64 v.s, .int .i64 v.r, .int .i64 v.n, .slice v.a v.l.length v.c] 45 (0, 0)) := by rw [hw7]; exact hp_alloc_new _ _
          have hb7 : Below wi.heap.size wi w7 := by rw [hw7]; exact below_new1 _ _
          obtain ⟨vb, hvb⟩ : ∃ vb, vb = wi.heap.size := ⟨_, rfl⟩
          rw [← hvb] at hn7
          have hc7 := HCi.out.below hb7
          obtain ⟨ac, cc, hrowc, hlk⟩ := hc7.look (s := v.s) (by omega) (by omega)
          have hmlt := hc7.lt
          have hlk0 := hlk w7 rfl
          have hlkd := hlk w7.drew rfl
          have hlk1 := hlk (w7.alloc (.cells #[.int .i64 p.node, .int .i64 v.s, .int .i64 v.r, .int .i64 v.n, .slice v.a v.l.length v.c] 141)).drew (hp_alloc_old hmlt)
          have hbw0 : w.heap.size ≤ w7.heap.size := (below_step HBi.out hb7).size
          have HST : Hid (∀ (v' : Value) (w8 : World), w8.ownsRow w.heap.size 141 5 v' ((cutJ r k p j v.s).length + 1) ((cutJ r k p j v.s).flatMap ccells ++ ccells (p.node, v)) → (w7.alloc (.cells #[.int .i64 p.node, .int .i64 v.s, .int .i64 v.r, .int .i64 v.n, .slice v.a v.l.length v.c] 141)).drew.grownBy w8 (Value.slice ac (cutJ r k p j v.s).length cc).ownBlock → (∀ kk, v'.ownBlock = some kk → (Value.slice ac (cutJ r k p j v.s).length cc).ownBlock = some kk ∨ (w7.alloc (.cells #[.int .i64 p.node, .int .i64 v.s, .int .i64 v.r, .int .i64 v.n, .slice v.a v.l.length v.c] 141)).drew.heap.size ≤ kk) →
              ∃ w9, (Instr.mapUpdate 138 (.map (some w.heap.size)) (.int .i64 v.s) v').run Tryz.prog w8 = .ok () w9 ∧ CutAt w9 w.heap.size w.heap.size (cutJ r k p (j + 1)) (16 * k + (j + 1)) ∧ (∀ (k : Nat) (cs : Array Value) (T : TypeId), T ≠ 141 → w7.heap[k]? = some (Obj.cells cs T (0, 0)) → w8.heap[k]? = some (Obj.cells cs T (0, 0)) ∧ w9.heap[k]? = some (Obj.cells cs T (0, 0))) ∧ Keep (fun k => w.heap.size ≤ k) w7 w9) := by
            intro v' w8 h1 h2 h3
            obtain ⟨w9, g1, g2, g3, g4⟩ := hc7.step (x := (p.node, v)) (by omega) (by omega) (by omega) hlk0 h1 ⟨h2.os, h2.tape, h2.output, h2.size, h2.block⟩ h3 hbw0
            rw [hstep] at g2
            exact ⟨w9, g1, g2, g3, g4⟩
          obtain ⟨L, hL⟩ : ∃ L, L = cutJ r k p j v.s := ⟨_, rfl⟩
          rw [← hL] at hrowc hlkd hlk1 hlen HST
          have HROWC := Lib.hid hrowc
          have HB7 := Lib.hid (below_step HBi.out hb7)
          have HP7 := Lib.hid (hp_step HPi.out hb7)
          have HR7 := Lib.hid (own_below HRi.out hb7)
          have HN7 := Lib.hid hn7
          have HW7 := Lib.hid hw7
          have HVB := Lib.hid hvb
          obtain ⟨z0, z1, z2, z3, zz⟩ := blk4 hn7
          obtain ⟨q0, -, -, -, qz⟩ := blk2 (hp_step HPi.out hb7)
          have hpn : p.vs.length ≤ 9223372036854775807 := by omega
          have hlz : L.length ≤ 96 := hlen
          have hws : w.heap.size ≤ w7.heap.size := hbw0
          have E2 := Lib.hid e2
          rw [e2]
          clear hgw hv hw7 hn7 hb7 hvb hc7 hrowc hlk hlk0 hstep hL hlen y0 y1 fy0 fy1 yz hbw0 hvr
          go_upto_region 8 with fail
          rw [← HW7.out, ← HVB.out]
          clear v0 v1 v2 v3 hgz2 e2
          go_region_held3 (fun w' => w'.cell? ⟨vb, 0, none⟩ = some (.int .i64 v.s) ∧ w'.cell? ⟨vb, 1, none⟩ = some (.int .i64 v.r) ∧ w'.cell? ⟨vb, 2, none⟩ = some (.int .i64 v.n) ∧ w'.cell? ⟨vb, 3, none⟩ = some (.slice v.a v.l.length v.c) ∧ w'.cell? ⟨pb, 0, none⟩ = some (.int .i64 p.node))
            (first | (exact ⟨z0, z1, z2, z3, q0⟩) | (exact ⟨cell_new z0, cell_new z1, cell_new z2, cell_new z3, cell_new q0⟩) | (exact ⟨u0, u1, u2, u3, u4⟩) | (exact ⟨t0, t1, t2, t3, t4⟩) | fail)
            ((refine step_append_at rfl (.tmp 30) (.tmp 35) 144 rfl w.heap.size 141 j0 _ 5 56 Tryz.underlying144 hj hy0 hy1 hy2 rfl (by decide) (.slice ac L.length cc) L.length (L.flatMap ccells) rfl (own_new HROWC.out _) ⟨w7.heap.size, 0, none⟩ 1 1 (ccells (p.node, v)) rfl rfl (lie_new5 w7 _ _ _ _ _ _) (by simp [ccells, Value.oneCell']) (by unfold maxLen; omega) (by omega) (size_up hws) ?_; intro v8 w8 hown hgr hat; obtain ⟨w9, hrun, hC9, hT9, hK9⟩ := HST.out v8 w8 hown hgr hat; obtain ⟨m8, m9⟩ := hT9 vb _ _ (by decide) HN7.out; obtain ⟨p8, p9⟩ := hT9 pb _ _ (by decide) HP7.out; obtain ⟨u0, u1, u2, u3, -⟩ := blk4 m8; obtain ⟨t0, t1, t2, t3, -⟩ := blk4 m9; have u4 := (blk2 p8).1; have t4 := (blk2 p9).1; have HC9 := Lib.hid hC9; have HT9 := Lib.hid (fun cs T hT hk => (hT9 g cs T hT hk).2); have HK9 := Lib.hid hK9; have HP9 := Lib.hid p9; clear hown hgr hat hC9 hT9 hK9 m8 m9 p8 p9))
          all_goals
            have HR9 : Hid (w9.ownsRow w.heap.size 115 2 (.slice (some ⟨g, 0, none⟩) r.length c') r.length (pcells r)) := own_kept HR7.out (fun g' hg' => by
              simp only [Option.some.injEq, Addr.mk.injEq, and_true] at hg'
              subst hg'
              obtain ⟨cur, hcur⟩ := own_heap HR7.out g rfl
              rw [hcur]
              exact HT9.out cur _ (by decide) hcur)
            have HB9 : Hid (Below w.heap.size w w9) := HB7.out.trans (HK9.out.below hws (fun i hi hs => by omega))
            go_wp2_with fail
            go_roundw
            case rel => exact ⟨j + 1, by omega, by go_num, HC9, HB9, HR9, by rw [← E2.out]; exact HP9⟩
            case measure => simp [intOf]; omega
        · obtain rfl : j = p.vs.length := by omega
          have HC6 : Hid (CutAt wi w.heap.size w.heap.size (cutG r (k + 1)) (16 * (k + 1))) := by
            simp only [Hid]
            rw [← HFULL.out]
            exact HCi.out.more (by omega)
          go_wp2_with fail
          go_roundw
          case rel => exact ⟨k + 1, by omega, by go_num, HC6, HBi, HRi⟩
          case measure => simp [intOf]; omega
    · obtain rfl : k = r.length := by omega
      have HE : Hid (CutAt wr w.heap.size w.heap.size (fun s => r.flatMap (atT s)) 80) := by
        simp only [Hid]
        rw [← cutG_full]
        exact HC.out.more (by omega)
      go_wp2_with fail
      go_ret
      exact ⟨_, r, rfl, HRP.out, HRS.out, HE.out, HB.out⟩
end Go.Proofs.YtcaakiaenfkeaaaGreat.chk
/-
  ballot.Best at casts, with the closures of Open and Chosen (printed by wip/mkchbe.py).
-/
namespace Go.Proofs.YtcaakiaenfkeaaaGreat.chbe
open Go.ChangeShapes Go.WideShapes Go.ChangeAt Go.RowKit
open Go.Proofs.YtcaakiaenfkeaaaGreat.kit Go.Proofs.YtcaakiaenfkeaaaGreat.mapkit Go.Proofs.YtcaakiaenfkeaaaGreat.byt Go.Proofs.YtcaakiaenfkeaaaGreat.own Go.Proofs.YtcaakiaenfkeaaaGreat.accd Go.Proofs.YtcaakiaenfkeaaaGreat.chd Go.Proofs.YtcaakiaenfkeaaaGreat.chb Go.Proofs.YtcaakiaenfkeaaaGreat.che Go.Proofs.YtcaakiaenfkeaaaGreat.chk
set_option linter.unusedVariables false
set_option linter.unusedSimpArgs false
set_option maxHeartbeats 2000000
set_option maxRecDepth 100000

/-- The first of the greatest. -/
def pickC (b : Option Ct) (c : Ct) : Option Ct :=
  match b with
  | none => some c
  | some x => if bal.lessB x.2.r x.2.n c.2.r c.2.n then some c else some x
def zeroC : Ct := (0, ⟨0, 0, 0, [], none, 0⟩)
def bestC (cs : List Ct) : Ct := (cs.foldl pickC none).getD zeroC
theorem pick_data (cs : List Ct) : ∀ b : Option Ct, (cs.foldl pickC b).map cvv = (cs.map cvv).foldl chp.pick (b.map cvv) := by
  induction cs with
  | nil => intro b; rfl
  | cons c cs ih =>
    intro b
    rw [List.foldl_cons, ih, List.map_cons, List.foldl_cons]
    congr 1
    cases b with
    | none => rfl
    | some x =>
      show (if bal.lessB x.2.r x.2.n c.2.r c.2.n then some c else some x).map cvv = if chp.lessB x.2.r x.2.n c.2.r c.2.n then some (cvv c) else some (cvv x)
      have e : bal.lessB x.2.r x.2.n c.2.r c.2.n = chp.lessB x.2.r x.2.n c.2.r c.2.n := rfl
      rw [e]
      cases chp.lessB x.2.r x.2.n c.2.r c.2.n <;> rfl
theorem pick_mem (cs : List Ct) : ∀ b x, cs.foldl pickC b = some x → b = some x ∨ x ∈ cs := by
  induction cs with
  | nil => intro b x h; exact .inl h
  | cons c cs ih =>
    intro b x h
    rcases ih _ x h with h1 | h1
    · cases b with
      | none => simp [pickC] at h1; exact .inr (by rw [h1]; exact List.mem_cons_self)
      | some y =>
        simp only [pickC] at h1
        split at h1
        · simp at h1; exact .inr (by rw [h1]; exact List.mem_cons_self)
        · exact .inl h1
    · exact .inr (List.mem_cons_of_mem _ h1)
theorem pick_some' (cs : List Ct) : ∀ b, (∃ x, b = some x) → ∃ x, cs.foldl pickC b = some x := by
  induction cs with
  | nil => intro b h; exact h
  | cons c cs ih =>
    intro b h
    obtain ⟨x, rfl⟩ := h
    refine ih _ ?_
    simp only [pickC]
    split
    · exact ⟨_, rfl⟩
    · exact ⟨_, rfl⟩
theorem best_take {cs : List Ct} (k : Nat) (hk : k < cs.length) : bestC (cs.take (k + 1)) = if k = 0 then cs[k] else if bal.lessB (bestC (cs.take k)).2.r (bestC (cs.take k)).2.n cs[k].2.r cs[k].2.n then cs[k] else bestC (cs.take k) := by
  unfold bestC
  rw [List.take_succ_eq_append_getElem hk, List.foldl_append]
  by_cases h0 : k = 0
  · subst h0; rfl
  · rw [if_neg h0]
    have hne : cs.take k ≠ [] := by
      intro e
      have := congrArg List.length e
      rw [List.length_take, List.length_nil] at this
      omega
    obtain ⟨x, hx⟩ : ∃ x, (cs.take k).foldl pickC none = some x := by
      cases h1 : cs.take k with
      | nil => exact absurd h1 hne
      | cons y t => exact pick_some' t _ ⟨y, rfl⟩
    rw [hx]
    simp only [List.foldl_cons, List.foldl_nil, pickC, Option.getD_some]
    split <;> rfl
def put5 (w : World) (b : Nat) (u v x y z : Value) : World := ((((w.setCell ⟨b, 0, none⟩ u).setCell ⟨b, 1, none⟩ v).setCell ⟨b, 2, none⟩ x).setCell ⟨b, 3, none⟩ y).setCell ⟨b, 4, none⟩ z
theorem put5_at {w : World} {b : Nat} {u v x y z u' v' x' y' z' : Value} {T : TypeId} (h : w.heap[b]? = some (.cells #[u, v, x, y, z] T (0, 0))) : (put5 w b u' v' x' y' z').heap[b]? = some (.cells #[u', v', x', y', z'] T (0, 0)) := hp_set (hp_set (hp_set (hp_set (hp_set h 0 u') 1 v') 2 x') 3 y') 4 z'
theorem put5_ne {w : World} {b k : Nat} {u v x y z : Value} (h : k ≠ b) : (put5 w b u v x y z).heap[k]? = w.heap[k]? := (hp_set_ne h).trans ((hp_set_ne h).trans ((hp_set_ne h).trans ((hp_set_ne h).trans (hp_set_ne h))))
theorem put5_size (w : World) (b : Nat) (u v x y z : Value) : (put5 w b u v x y z).heap.size = w.heap.size := by simp [put5, size_set]
theorem put5_below {B : Nat} {a w : World} (h : Below B a w) {b : Nat} (hb : B ≤ b) (u v x y z : Value) : Below B a (put5 w b u v x y z) := ((((h.setCell (p := ⟨b, 0, none⟩) hb u).setCell (p := ⟨b, 1, none⟩) hb v).setCell (p := ⟨b, 2, none⟩) hb x).setCell (p := ⟨b, 3, none⟩) hb y).setCell (p := ⟨b, 4, none⟩) hb z
def cobj (c : Ct) : Obj := .cells #[.int .i64 c.1, .int .i64 c.2.s, .int .i64 c.2.r, .int .i64 c.2.n, .slice c.2.a c.2.l.length c.2.c] 141
theorem hp_drew (w : World) (k : Nat) : w.drew.heap[k]? = w.heap[k]? := rfl
/-- The three blocks of Best: the result's, the best so far, its ballot. -/
structure B3 (B : Nat) (x : Ct) (w : World) : Prop where
  h0 : w.heap[B]? = some (.cells #[.int .i64 0, .int .i64 0, .int .i64 0, .int .i64 0, .slice none 0 0] 141 (0, 0))
  h1 : w.heap[B + 1]? = some (.cells #[.int .i64 x.1, .int .i64 x.2.s, .int .i64 x.2.r, .int .i64 x.2.n, .slice x.2.a x.2.l.length x.2.c] 141 (0, 0))
  h2 : w.heap[B + 1 + 1]? = some (.cells #[.int .i64 x.2.r, .int .i64 x.2.n] 28 (0, 0))
theorem B3.below {B : Nat} {x : Ct} {w w' : World} (h : B3 B x w) (hb : Below w.heap.size w w') : B3 B x w' := ⟨hp_step h.h0 hb, hp_step h.h1 hb, hp_step h.h2 hb⟩
theorem B3.step {B : Nat} {x : Ct} {w : World} (h : B3 B x w) (y : Ct) : B3 B y (put2 (put5 w (B + 1) (.int .i64 y.1) (.int .i64 y.2.s) (.int .i64 y.2.r) (.int .i64 y.2.n) (.slice y.2.a y.2.l.length y.2.c)) (B + 1 + 1) (.int .i64 y.2.r) (.int .i64 y.2.n)).drew := by
  obtain ⟨h0, h1, h2⟩ := h
  refine ⟨?_, ?_, ?_⟩
  · rw [hp_drew, put2_ne (by omega), put5_ne (by omega)]; exact h0
  · rw [hp_drew, put2_ne (by omega)]; exact put5_at h1
  · rw [hp_drew]; exact put2_at (by rw [put5_ne (by omega)]; exact h2)

theorem askOpen_any (x : Ct) (w : World) :
    Calls Tryz.prog 64 #[.agg #[.int .i64 x.1, .int .i64 x.2.s, .int .i64 x.2.r, .int .i64 x.2.n, .slice x.2.a x.2.l.length x.2.c]] w fun e w' => e = .returned (.agg #[.int .i64 x.2.r, .int .i64 x.2.n]) ∧ Below w.heap.size w w' := by
  go_enter Tryz.func64, Tryz.ntmps64
  go_wp2
  exact bodyPost_ret (v := .agg #[.int .i64 x.2.r, .int .i64 x.2.n]) (by simp [results, Tryz.results64, go_sem]) rfl ⟨rfl, below_new2 _ _ _⟩

theorem bestOpen_ok (w : World) (base c : Nat) (a : Option Addr) (cs : List Ct) (h : che.RowK w base 141 a c cs) (hl : cs.length ≤ 1000) :
    Calls Tryz.prog 63 #[.slice a cs.length c, .func (.func 64) #[] #[]] w
      fun e w' => e = .returned (.tuple #[.agg #[.int .i64 (bestC cs).1, .int .i64 (bestC cs).2.s, .int .i64 (bestC cs).2.r, .int .i64 (bestC cs).2.n, .slice (bestC cs).2.a (bestC cs).2.l.length (bestC cs).2.c], .bool (decide (0 < cs.length))]) ∧ Below w.heap.size w w' := by
  have HR := Lib.hid (fun (wx : World) (hb : Below w.heap.size w wx) (k : Nat) (hk : k < cs.length) => (h.below hb).cells hk)
  clear h
  go_enter Tryz.func63, Tryz.ntmps63
  go_wp2_with fail
  go_loopw [13] (fun i wr => ∃ k : Nat, k ≤ cs.length ∧ i = .int .i64 k ∧ Hid (B3 w.heap.size (bestC (cs.take k)) wr) ∧ Hid (Below w.heap.size w wr)) (fun i _ => cs.length - (intOf i).toNat)
  case atStart =>
    obtain ⟨n0, n1, n2, n3⟩ := new3 w (.cells #[.int .i64 0, .int .i64 0, .int .i64 0, .int .i64 0, .slice none 0 0] 141) (.cells #[.int .i64 0, .int .i64 0, .int .i64 0, .int .i64 0, .slice none 0 0] 141) (.cells #[.int .i64 0, .int .i64 0] 28)
    exact ⟨0, Nat.zero_le _, rfl, ⟨n0, n1, n2⟩, below_new3 _ _ _ _⟩
  case round =>
    obtain ⟨k, hk, rfl, HS, HB⟩ := hrel
    obtain ⟨b, hb⟩ : ∃ b, b = bestC (cs.take k) := ⟨_, rfl⟩
    rw [← hb] at HS
    by_cases hlt : k < cs.length
    · have hbt := best_take k hlt
      obtain ⟨g, rfl, hgz, hmx, x0, x1, x2, x3, x4⟩ := HR.out wr HB.out k hlt
      rw [← hb] at hbt
      obtain ⟨x, hx⟩ : ∃ x, x = cs[k] := ⟨_, rfl⟩
      rw [← hx] at x0 x1 x2 x3 x4 hbt
      obtain ⟨w5, hw5⟩ : ∃ w5, w5 = wr.alloc (.cells #[.int .i64 x.1, .int .i64 x.2.s, .int .i64 x.2.r, .int .i64 x.2.n, .slice x.2.a x.2.l.length x.2.c] 141) := ⟨_, rfl⟩
      have hn5 : w5.heap[wr.heap.size]? = some (.cells #[.int .i64 x.1, .int .i64 x.2.s, .int .i64 x.2.r, .int .i64 x.2.n, .slice x.2.a x.2.l.length x.2.c] 141 (0, 0)) := by rw [hw5]; exact hp_alloc_new _ _
      have hb5 : Below wr.heap.size wr w5 := by rw [hw5]; exact below_new1 _ _
      obtain ⟨xb, hxb⟩ : ∃ xb, xb = wr.heap.size := ⟨_, rfl⟩
      rw [← hxb] at hn5
      obtain ⟨y0, y1, y2, y3, y4, yz⟩ := blk5 hn5
      have HA := Lib.hid (askOpen_any x w5)
      have HBT := Lib.hid hbt
      have HB5 := Lib.hid (below_step HB.out hb5)
      have HS5 := Lib.hid (HS.out.below hb5)
      have HN5 := Lib.hid hn5
      have HW5 := Lib.hid hw5
      have HXB := Lib.hid hxb
      have hcl : cs.length ≤ 9223372036854775807 := by omega
      clear hbt hx hw5 hn5 hb5 hxb hb
      go_upto_region 6 with fail
      rw [← HW5.out, ← HXB.out]
      clear x0 x1 x2 x3 x4 HW5 hgz hmx
      go_wp2_with fail
      refine HA.out.mono ?_; rintro e w6 ⟨rfl, hb6⟩
      obtain ⟨w7, hw7⟩ : ∃ w7, w7 = w6.alloc (.cells #[.int .i64 x.2.r, .int .i64 x.2.n] 28) := ⟨_, rfl⟩
      have hb67 : Below w5.heap.size w5 w7 := by rw [hw7]; exact below_step hb6 (below_new1 _ _)
      have hn7 : w7.heap[w6.heap.size]? = some (.cells #[.int .i64 x.2.r, .int .i64 x.2.n] 28 (0, 0)) := by rw [hw7]; exact hp_alloc_new _ _
      obtain ⟨rb, hrb⟩ : ∃ rb, rb = w6.heap.size := ⟨_, rfl⟩
      rw [← hrb] at hn7
      have HN7 := Lib.hid hn7
      have HX7 := Lib.hid (hp_step HN5.out hb67)
      have HS7 := Lib.hid (HS5.out.below hb67)
      have HB7 := Lib.hid (below_step HB5.out hb67)
      have HW7 := Lib.hid hw7
      have HRB := Lib.hid hrb
      obtain ⟨z0, z1, fz0, fz1, zz⟩ := blk2 hn7
      obtain ⟨y0, y1, y2, y3, y4, yz⟩ := blk5 HX7.out
      obtain ⟨q0, q1, fq0, fq1, qz⟩ := blk2 HS7.out.h2
      obtain ⟨p0, p1, p2, p3, p4, pz⟩ := blk5 HS7.out.h1
      obtain ⟨fp0, fp1, fp2, fp3, fp4⟩ := blk5f HS7.out.h1
      have hlo : w.heap.size ≤ wr.heap.size := HB.out.size
      have hB1x : ¬ w.heap.size + 1 = xb := by have := (kit.blk HS.out.h1).2.2; have := HXB.out; omega
      have hB1r : ¬ w.heap.size + 1 = rb := by have := (kit.blk HS.out.h1).2.2; have := HRB.out; have := hb6.size; have := HB5.out.size; have := (kit.blk HN5.out).2.2; have := HXB.out; omega
      have hB2r : ¬ w.heap.size + 1 + 1 = rb := by have := (kit.blk HS.out.h2).2.2; have := HRB.out; have := hb6.size; have := (kit.blk HN5.out).2.2; have := HXB.out; omega
      have hB2x : ¬ w.heap.size + 1 + 1 = xb := by have := (kit.blk HS.out.h2).2.2; have := HXB.out; omega
      clear hb6 hw7 hb67 hn7 hrb
      go_upto_region 7 with fail
      rw [← HW7.out, ← HRB.out]
      clear HW7
      by_cases hk0 : k = 0
      · have t1 : ((k : Int) == 0) = true := by simp [hk0]
        rw [if_pos hk0] at HBT
        clear hk0
        have HS9 := Lib.hid (HS7.out.step x)
        have HB9 : Hid (Below w.heap.size w (put2 (put5 w7 (w.heap.size + 1) (.int .i64 x.1) (.int .i64 x.2.s) (.int .i64 x.2.r) (.int .i64 x.2.n) (.slice x.2.a x.2.l.length x.2.c)) (w.heap.size + 1 + 1) (.int .i64 x.2.r) (.int .i64 x.2.n)).drew) := (put2_below (put5_below HB7.out (by omega) _ _ _ _ _) (by omega) _ _).drew
        go_wp2_with fail
        go_region
        go_wp2_with fail
        go_roundw
        case rel => exact ⟨k + 1, by omega, by go_num, by rw [HBT.out]; exact HS9.out, HB9⟩
        case measure => simp [intOf]; omega
      · have t1 : ((k : Int) == 0) = false := by simpa using hk0
        rw [if_neg hk0] at HBT
        have HL := Lib.hid (less_any b.2.r b.2.n x.2.r x.2.n w7)
        clear hk0
        cases hlb : bal.lessB b.2.r b.2.n x.2.r x.2.n with
        | false =>
          rw [hlb, if_neg (by simp)] at HBT
          rw [hlb] at HL
          clear hlb
          go_wp2_with fail
          refine HL.out.mono ?_; rintro e w8 ⟨rfl, hb8⟩
          have HB8 := Lib.hid (below_step HB7.out hb8)
          have HS8 := Lib.hid (HS7.out.below hb8)
          clear hb8
          go_wp2_with fail
          go_roundw
          case rel => exact ⟨k + 1, by omega, by go_num, by rw [HBT.out]; exact HS8, HB8⟩
          case measure => simp [intOf]; omega
        | true =>
          rw [hlb, if_pos rfl] at HBT
          rw [hlb] at HL
          clear hlb
          go_wp2_with fail
          refine HL.out.mono ?_; rintro e w8 ⟨rfl, hb8⟩
          have HB8 := Lib.hid (below_step HB7.out hb8)
          have HS8 := Lib.hid (HS7.out.below hb8)
          obtain ⟨z0, z1, -, -, zz⟩ := blk2 (hp_step HN7.out hb8)
          obtain ⟨y0, y1, y2, y3, y4, yz⟩ := blk5 (hp_step HX7.out hb8)
          obtain ⟨q0, q1, fq0, fq1, qz⟩ := blk2 HS8.out.h2
          obtain ⟨p0, p1, p2, p3, p4, pz⟩ := blk5 HS8.out.h1
          obtain ⟨fp0, fp1, fp2, fp3, fp4⟩ := blk5f HS8.out.h1
          have HS9 := Lib.hid (HS8.out.step x)
          have HB9 : Hid (Below w.heap.size w (put2 (put5 w8 (w.heap.size + 1) (.int .i64 x.1) (.int .i64 x.2.s) (.int .i64 x.2.r) (.int .i64 x.2.n) (.slice x.2.a x.2.l.length x.2.c)) (w.heap.size + 1 + 1) (.int .i64 x.2.r) (.int .i64 x.2.n)).drew) := (put2_below (put5_below HB8.out (by omega) _ _ _ _ _) (by omega) _ _).drew
          clear hb8
          go_wp2_with fail
          go_region
          go_wp2_with fail
          go_roundw
          case rel => exact ⟨k + 1, by omega, by go_num, by rw [HBT.out]; exact HS9.out, HB9⟩
          case measure => simp [intOf]; omega
    · obtain rfl : k = cs.length := by omega
      rw [List.take_length] at hb
      obtain ⟨p0, p1, p2, p3, p4, pz⟩ := blk5 HS.out.h1
      obtain ⟨c0, c1, c2, c3, c4, cz⟩ := blk5 HS.out.h0
      obtain ⟨fc0, fc1, fc2, fc3, fc4⟩ := blk5f HS.out.h0
      have HBE := Lib.hid hb
      clear hb
      go_wp2_with fail
      rw [← HBE.out]
      exact bodyPost_ret (v := .tuple #[.agg #[.int .i64 b.1, .int .i64 b.2.s, .int .i64 b.2.r, .int .i64 b.2.n, .slice b.2.a b.2.l.length b.2.c], .bool (decide (0 < cs.length))]) (by simp [results, Tryz.results63, go_sem, c0, c1, c2, c3, c4]) rfl ⟨rfl, put5_below HB.out (Nat.le_refl _) _ _ _ _ _⟩

end Go.Proofs.YtcaakiaenfkeaaaGreat.chbe
