/-
  The leader's cut: the votes by slots, in a map of rows.
-/
import Derived.Test.YtodoncmielfbeaaChS
import Derived.Test.YtodoncmielfbeaaChO
import Derived.Test.YtodoncmielfbeaaKit3
import Derived.Deep.RegionHeld3
namespace Go.Proofs.Ytodoncmielfbeaa.chk
open Go.ChangeShapes Go.WideShapes Go.ChangeAt Go.RowKit
open Go.Maps (Keyed)
open Go.ChangeMaps Go.MapKept
open Go.Proofs.Ytodoncmielfbeaa.kit Go.Proofs.Ytodoncmielfbeaa.mapkit Go.Proofs.Ytodoncmielfbeaa.byt Go.Proofs.Ytodoncmielfbeaa.own Go.Proofs.Ytodoncmielfbeaa.accd Go.Proofs.Ytodoncmielfbeaa.chd Go.Proofs.Ytodoncmielfbeaa.chr Go.Proofs.Ytodoncmielfbeaa.che Go.Proofs.Ytodoncmielfbeaa.chf Go.Proofs.Ytodoncmielfbeaa.chq Go.Proofs.Ytodoncmielfbeaa.cho Go.Proofs.Ytodoncmielfbeaa.chv Go.Proofs.Ytodoncmielfbeaa.chs
set_option linter.unusedVariables false
set_option linter.unusedSimpArgs false
set_option maxHeartbeats 2000000
set_option maxRecDepth 100000

theorem sortedf_ok (B hi : Nat) (a : Option Addr) (c : Nat) (l : List Pt) (w : World) (hB : B < hi) (hhi : hi ≤ w.heap.size) (hl : l.length ≤ 5) (h : SrcP w hi B a c l) (hnod : ∀ p ∈ l, 1 ≤ p.node ∧ p.node ≤ 5) (hdis : l.Pairwise (fun p q => p.node ≠ q.node)) :
    Calls Try.prog 54 #[.func (.func 66) #[] #[.pointer (some ⟨B, 0, none⟩)], .func (.func 56) #[] #[]] w fun e w' =>
      ∃ (a' : Option Addr) (c' : Nat) (r : List Pt), e = .returned (.slice a' l.length c') ∧ r.Perm l ∧ r.Pairwise (fun p q => p.node < q.node) ∧ w'.ownsRow w.heap.size 36 2 (.slice a' l.length c') l.length (pcells r) ∧ Below w.heap.size w w' := by
  have HC := Lib.hid (collect_ok B hi a c l w hB hhi hl h)
  have HN := Lib.hid hnod
  have HD := Lib.hid hdis
  clear h hnod hdis
  go_enter Try.func54, Try.ntmps54
  go_wp2_with fail
  refine HC.out.mono ?_; rintro e w1 ⟨v, rfl, ho, hb⟩
  obtain ⟨a', c', rfl⟩ := own_shape ho
  have HS := Lib.hid (sort_ok w1 w.heap.size c' a' l hl ho hb.size HN.out HD.out)
  have HB := Lib.hid hb
  clear ho hb
  go_wp2_with fail
  refine HS.out.mono ?_; rintro e w2 ⟨rfl, r, hp, hs, hr, hb2⟩
  have HP := Lib.hid hp
  have HPS := Lib.hid hs
  have HR := Lib.hid hr
  have HB2 := Lib.hid (HB.out.trans hb2)
  clear hp hs hr hb2
  go_wp2_with fail
  go_ret
  exact ⟨a', c', r, rfl, HP.out, HPS.out, HR.out, HB2.out⟩

/-- Where a slot's row lies. -/
structure CutAt (w : World) (base mb : Nat) (g : Int → List Ct) (N : Nat) : Prop where
  ex : ∃ (f : Lit → Option Value) (cnt : Nat) (V : Int → Option Addr × Nat), MapAt w Try.prog 3 mb f cnt ∧ cnt ≤ N ∧
    (∀ s, (g s = [] → f (.int .i64 s) = none ∧ V s = (none, 0)) ∧ (g s ≠ [] → f (.int .i64 s) = some (.slice (V s).1 (g s).length (V s).2))) ∧
    (∀ s, w.ownsRow base 78 5 (.slice (V s).1 (g s).length (V s).2) (g s).length ((g s).flatMap ccells)) ∧
    (∀ s t b, s ≠ t → (V s).1 = some ⟨b, 0, none⟩ → (V t).1 ≠ some ⟨b, 0, none⟩)
  lo : base ≤ mb
theorem CutAt.below {w w' : World} {base mb : Nat} {g : Int → List Ct} {N : Nat} (h : CutAt w base mb g N) (hb : Below w.heap.size w w') : CutAt w' base mb g N := by
  obtain ⟨⟨f, cnt, V, h1, h2, h3, h4, h5⟩, h6⟩ := h
  exact ⟨⟨f, cnt, V, h1.below hb, h2, h3, fun s => own_below (h4 s) hb, h5⟩, h6⟩
theorem CutAt.more {w : World} {base mb : Nat} {g : Int → List Ct} {N M : Nat} (h : CutAt w base mb g N) (hm : N ≤ M) : CutAt w base mb g M := by
  obtain ⟨⟨f, cnt, V, h1, h2, h3, h4, h5⟩, h6⟩ := h
  exact ⟨⟨f, cnt, V, h1, by omega, h3, h4, h5⟩, h6⟩
theorem CutAt.lt {w : World} {base mb : Nat} {g : Int → List Ct} {N : Nat} (h : CutAt w base mb g N) : mb < w.heap.size := by
  obtain ⟨⟨f, cnt, V, h1, h2, h3, h4, h5⟩, h6⟩ := h
  exact h1.lt
/-- One more cast at s. -/
def addC (g : Int → List Ct) (s : Int) (x : Ct) : Int → List Ct := fun t => if t = s then g t ++ [x] else g t
theorem cut_start (w : World) : CutAt (w.alloc (.map #[] 0)) w.heap.size w.heap.size (fun _ => []) 0 :=
  ⟨⟨_, 0, fun _ => (none, 0), map_made _ _ _, Nat.le_refl _, fun s => ⟨fun _ => ⟨rfl, rfl⟩, fun h => absurd rfl h⟩, fun s => World.ownsRow_nil _ _ _ _, by simp⟩, Nat.le_refl _⟩
theorem zero_casts (w : World) : (zeroValue 81).run Try.prog w = .ok (.slice none 0 0) w := by go_simp
/-- What a lookup gives. -/
theorem CutAt.look {w : World} {base mb : Nat} {g : Int → List Ct} {N : Nat} (h : CutAt w base mb g N) {s : Int} (h1 : -9223372036854775808 ≤ s) (h2 : s ≤ 9223372036854775807) :
    ∃ (a : Option Addr) (c : Nat), w.ownsRow base 78 5 (.slice a (g s).length c) (g s).length ((g s).flatMap ccells) ∧ (∀ w', w'.heap[mb]? = w.heap[mb]? → (Instr.lookup 75 (.map (some mb)) (.int .i64 s) false).run Try.prog w' = .ok (.slice a (g s).length c) w') := by
  obtain ⟨⟨f, cnt, V, h1', h2', h3, h4, h5⟩, h6⟩ := h
  refine ⟨(V s).1, (V s).2, h4 s, fun w' hw' => ?_⟩
  have hr := (h1'.to hw').run_look keyedI Try.underlying75 (zero_casts w') (key_int h1 h2)
  rw [hr]
  by_cases hg : g s = []
  · obtain ⟨e1, e2⟩ := (h3 s).1 hg
    rw [e1, e2, hg]; rfl
  · rw [(h3 s).2 hg]; rfl
/-- One more cast at a slot: the row behind the append, and the map behind the store. -/
theorem CutAt.step {w w2 : World} {base mb : Nat} {g : Int → List Ct} {N : Nat} (h : CutAt w base mb g N) (hN : N < 100000) {s : Int} (h1 : -9223372036854775808 ≤ s) (h2 : s ≤ 9223372036854775807) {a : Option Addr} {c : Nat} (hlk : (Instr.lookup 75 (.map (some mb)) (.int .i64 s) false).run Try.prog w = .ok (.slice a (g s).length c) w)
    {ob : Obj} {v' : Value} {x : Ct} (hown : w2.ownsRow base 78 5 v' ((g s).length + 1) ((g s).flatMap ccells ++ ccells x)) (hg : (w.alloc ob).grownBy w2 (Value.slice a (g s).length c).ownBlock)
    (hat : ∀ k, v'.ownBlock = some k → (Value.slice a (g s).length c).ownBlock = some k ∨ (w.alloc ob).heap.size ≤ k) (hbw : base ≤ w.heap.size) :
    ∃ w3, (Instr.mapUpdate 75 (.map (some mb)) (.int .i64 s) v').run Try.prog w2 = .ok () w3 ∧ CutAt w3 base mb (addC g s x) (N + 1) ∧ (∀ (k : Nat) (cs : Array Value) (T : TypeId), T ≠ 78 → w.heap[k]? = some (Obj.cells cs T (0, 0)) → w2.heap[k]? = some (Obj.cells cs T (0, 0)) ∧ w3.heap[k]? = some (Obj.cells cs T (0, 0))) ∧ Keep (fun k => base ≤ k) w w3 := by
  obtain ⟨⟨f, cnt, V, hm, hcn, h3, h4, h5⟩, h6⟩ := h
  have hrl := hm.run_look keyedI Try.underlying75 (zero_casts w) (key_int h1 h2)
  have ea : (V s) = (a, c) := by
    rw [hlk] at hrl
    simp only [Result.ok.injEq, and_true] at hrl
    by_cases hg0 : g s = []
    · obtain ⟨e1, e2⟩ := (h3 s).1 hg0
      rw [e1] at hrl
      simp only [Option.getD_none, Value.slice.injEq] at hrl
      rw [e2, hrl.1, hrl.2.2]
    · rw [(h3 s).2 hg0] at hrl
      simp only [Option.getD_some, Value.slice.injEq, true_and] at hrl
      rw [hrl.1, hrl.2]
  have h4s := h4 s
  rw [ea] at h4s
  obtain ⟨a2, c2, rfl⟩ := own_shape hown
  have hmlt := hm.lt
  have hmne : (Value.slice a (g s).length c).ownBlock ≠ some mb := by
    intro e
    have e' := own_block h4s mb e
    obtain ⟨cur, hcur⟩ := own_heap h4s mb e'
    obtain ⟨es, cl, hme⟩ := hm.obj
    rw [hcur] at hme
    simp at hme
  have hm2 : MapAt w2 Try.prog 3 mb f cnt := hm.to ((hg.block mb (by rw [size_new]; omega) (fun e => hmne e.symm)).trans (hp_alloc_old hmlt))
  obtain ⟨w3, hrun, hmap, hgr⟩ := hm2.run_store keyedI Try.underlying75 (by unfold maxLen; omega) (key_int h1 h2) (val := .slice a2 ((g s).length + 1) c2) (by trivial)
  have hk2 : Keep (fun k => base ≤ k) w w2 := by
    refine ((Keep.refl _ w).alloc ob).trans' (S' := fun k => base ≤ k) ⟨hg.os, hg.tape, hg.output, hg.size, fun k hk hn => hg.block k hk (fun e => ?_)⟩ (fun i hi h => h)
    have := (own_from h4s k (own_block h4s k e.symm)).1
    exact hn this
  have hk3 : Keep (fun k => base ≤ k) w w3 := hk2.trans ⟨hgr.os, hgr.tape, hgr.output, hgr.size, fun k hk hn => hgr.block k hk (fun e => by simp at e; subst e; exact hn h6)⟩
  have hkt : ∀ (k : Nat) (cs : Array Value) (T : TypeId), T ≠ 78 → w.heap[k]? = some (Obj.cells cs T (0, 0)) → w2.heap[k]? = some (Obj.cells cs T (0, 0)) ∧ w3.heap[k]? = some (Obj.cells cs T (0, 0)) := by
    intro k cs T hT hk
    have hkz := (kit.blk hk).2.2
    have hkm : k ≠ mb := by
      rintro rfl
      obtain ⟨es, cl, hme⟩ := hm.obj
      rw [hk] at hme
      simp at hme
    have hks : (Value.slice a (g s).length c).ownBlock ≠ some k := by
      intro e'
      have := own_block h4s k e'
      obtain ⟨cur, hcur⟩ := own_heap h4s k this
      rw [hk] at hcur
      simp at hcur
      exact hT hcur.2
    have h9 : w2.heap[k]? = some (Obj.cells cs T (0, 0)) := (hg.block k (by rw [size_new]; omega) (fun e => hks e.symm)).trans ((hp_alloc_old hkz).trans hk)
    refine ⟨h9, (hgr.block k ?_ (fun e => hkm (Option.some.inj e))).trans h9⟩
    have := hg.size
    rw [size_new] at this
    omega
  refine ⟨w3, hrun, ⟨⟨_, _, fun t => if t = s then (a2, c2) else V t, hmap, ?_, fun t => ?_, fun t => ?_, fun t u b hne => ?_⟩, h6⟩, hkt, hk3⟩
  · split <;> omega
  · by_cases e : t = s
    · subst e
      refine ⟨fun hh => ?_, fun _ => ?_⟩
      · simp [addC] at hh
      · simp [addC, upd, Lit.sameKey]
    · have hsk : (Lit.int .i64 t).sameKey (.int .i64 s) = false := by simp [Lit.sameKey, e]
      simp only [addC, if_neg e, upd, hsk]
      simpa using h3 t
  · by_cases e : t = s
    · subst e
      simp only [addC, if_pos rfl]
      have h7 : w3.ownsRow base 78 5 (.slice a2 ((g t).length + 1) c2) ((g t).length + 1) ((g t).flatMap ccells ++ ccells x) := own_kept hown (fun k hk => hgr.block k (own_from hown k hk).2 (fun e => by
        simp at e; subst e
        obtain ⟨cur, hcur⟩ := own_heap hown k hk
        obtain ⟨es, cl, hme⟩ := hm2.obj
        rw [hcur] at hme
        simp at hme))
      simpa using h7
    · simp only [addC, if_neg e]
      refine own_kept (h4 t) (fun k hk => ?_)
      have hkz := (own_from (h4 t) k hk).2
      have hkm : k ≠ mb := by
        rintro rfl
        obtain ⟨cur, hcur⟩ := own_heap (h4 t) k hk
        obtain ⟨es, cl, hme⟩ := hm.obj
        rw [hcur] at hme
        simp at hme
      have hks : (Value.slice a (g s).length c).ownBlock ≠ some k := by
        intro e'
        have := own_block h4s k e'
        exact h5 s t k (Ne.symm e) (by rw [ea]; exact this) hk
      refine (hgr.block k ?_ (fun e => hkm (Option.some.inj e))).trans ((hg.block k (by rw [size_new]; omega) (fun e => hks e.symm)).trans (hp_alloc_old hkz))
      have := hg.size
      rw [size_new] at this
      omega
  · have key : ∀ t b, t ≠ s → a2 = some ⟨b, 0, none⟩ → (V t).1 ≠ some ⟨b, 0, none⟩ := by
      intro t b ht ha hv
      have hkz := (own_from (h4 t) b hv).2
      rcases hat b (by rw [ha]; rfl) with h7 | h7
      · exact h5 s t b (Ne.symm ht) (by rw [ea]; exact own_block h4s b h7) hv
      · rw [size_new] at h7; omega
    by_cases e1 : t = s
    · by_cases e2 : u = s
      · exact absurd (e1.trans e2.symm) hne
      · simp only [if_pos e1, if_neg e2]
        exact key u b e2
    · by_cases e2 : u = s
      · simp only [if_neg e1, if_pos e2]
        intro h8 h9
        exact key t b e1 h9 h8
      · simp only [if_neg e1, if_neg e2]
        exact h5 t u b hne

/-- The votes by slots, as far as they are cut. -/
def cutG (r : List Pt) (i : Nat) (s : Int) : List Ct := (r.take i).flatMap (atT s)
def cutJ (r : List Pt) (i : Nat) (p : Pt) (j : Nat) (s : Int) : List Ct := cutG r i s ++ inP p.node s p j
theorem cutJ_zero (r : List Pt) (i : Nat) (p : Pt) : cutJ r i p 0 = cutG r i := by funext s; simp [cutJ, inP]
theorem cutJ_step (r : List Pt) (i : Nat) (p : Pt) (j : Nat) (hj : j < p.vs.length) : addC (cutJ r i p j) p.vs[j].s (p.node, p.vs[j]) = cutJ r i p (j + 1) := by
  funext s
  unfold addC cutJ
  by_cases h : s = p.vs[j].s
  · rw [if_pos h, inP_put hj rfl h.symm, List.append_assoc]
  · rw [if_neg h, inP_skip hj (fun e => h e.symm)]
theorem cutJ_full (r : List Pt) (i : Nat) (hi : i < r.length) : cutJ r i r[i] r[i].vs.length = cutG r (i + 1) := by
  funext s
  unfold cutJ cutG
  rw [inP_full, if_pos rfl, List.take_succ_eq_append_getElem hi, List.flatMap_append]
  simp
theorem cutG_full (r : List Pt) : cutG r r.length = fun s => r.flatMap (atT s) := by funext s; unfold cutG; rw [List.take_length]
theorem cutJ_len {r : List Pt} {i : Nat} {p : Pt} {j : Nat} (h16 : ∀ q ∈ r, q.vs.length ≤ 16) (hi : i ≤ 5) (hj : j ≤ 16) (s : Int) : (cutJ r i p j s).length ≤ 96 := by
  unfold cutJ cutG
  rw [List.length_append]
  have h1 := inP_len p.node s p j
  have h2 : ∀ L : List Pt, (∀ q ∈ L, q.vs.length ≤ 16) → (L.flatMap (atT s)).length ≤ 16 * L.length := by
    intro L
    induction L with
    | nil => intro _; simp
    | cons q L ih =>
      intro h
      have h3 := ih (fun x hx => h x (List.mem_cons_of_mem _ hx))
      have h4 : (atT s q).length ≤ q.vs.length := by unfold atT; rw [List.length_map]; exact List.length_filter_le _ _
      have h5 := h q List.mem_cons_self
      rw [List.flatMap_cons, List.length_append, List.length_cons]
      omega
  have h3 := h2 (r.take i) (fun q hq => h16 q (List.mem_of_mem_take hq))
  rw [List.length_take] at h3
  omega
theorem infoCastC : (Try.prog.info? 78).map (fun i => (i.zero, i.size, i.bytes)) = some (some (.agg #[.int .i64 0, .int .i64 0, .int .i64 0, .int .i64 0, .slice none 0 0]), 5, 56) := by kernel_rfl
theorem pt_row {w : World} {base c : Nat} {a : Option Addr} {r : List Pt} (h : w.ownsRow base 36 2 (.slice a r.length c) r.length (pcells r)) {k : Nat} (hk : k < r.length) :
    ∃ g, a = some ⟨g, 0, none⟩ ∧ g < w.heap.size ∧ w.cell? ⟨g, k * 2, none⟩ = some (.int .i64 r[k].node) ∧ w.cell? ⟨g, k * 2 + 1, none⟩ = some (.slice r[k].a r[k].vs.length r[k].c) := by
  obtain ⟨g, rfl⟩ := own_ptr h (by omega)
  rcases own_rows pcells_len h with h0 | ⟨b, off, e, hz, hc⟩
  · have : r = [] := by simpa using h0
    subst this; simp at hk
  · simp only [Option.some.injEq, Addr.mk.injEq, and_true] at e
    obtain ⟨rfl, rfl⟩ := e
    have hi : k < (r.map Pt.cells).length := by simpa using hk
    have e0 := hc k hi 0 (by omega)
    have e1 := hc k hi 1 (by omega)
    simp only [List.getElem_map, Nat.add_zero, Nat.zero_add] at e0 e1
    exact ⟨g, rfl, hz, e0.trans rfl, e1.trans rfl⟩
theorem right_pts {nodes : Int} {l : List Pt} (h : chp.Right nodes (l.map pv)) : (∀ p ∈ l, 1 ≤ p.node ∧ p.node ≤ 5) ∧ l.Pairwise (fun p q => p.node ≠ q.node) ∧ (∀ p ∈ l, ∀ v ∈ p.vs, 1 ≤ v.s ∧ v.s ≤ 1099511627776) := by
  refine ⟨fun p hp => ?_, ?_, fun p hp v hv => ?_⟩
  · have := (prOk_iff.1 (h.2.1 _ (List.mem_map_of_mem hp))).1
    have h5 := h.1
    simp only [pv] at this
    omega
  · have := h.2.2
    rw [List.pairwise_map] at this
    exact this
  · have := (chp.lastOk_lt (prOk_iff.1 (h.2.1 _ (List.mem_map_of_mem hp))).2.2).1 (vv v) (List.mem_map_of_mem hv)
    simp only [vv] at this
    omega

theorem size_up {W : World} {o : Obj} {n : Nat} (h : n ≤ W.heap.size) : n ≤ (W.alloc o).drew.heap.size := by
  show n ≤ (W.alloc o).heap.size
  rw [size_new]; exact Nat.le_succ_of_le h
theorem cell_new {W : World} {a : Addr} {u : Value} {o : Obj} (h : W.cell? a = some u) : (W.alloc o).drew.cell? a = some u := by
  show (W.alloc o).cell? a = some u
  exact cell_step h (below_new1 W o)
theorem own_new {W : World} {base : Nat} {e : TypeId} {size : Nat} {v : Value} {n : Nat} {xs : List Value} (h : W.ownsRow base e size v n xs) (o : Obj) : (W.alloc o).drew.ownsRow base e size v n xs := h.alloc o
theorem cut_ok (w : World) (nodes : Int) (a : Option Addr) (c : Nat) (l : List Pt) (h : RowP w a l) (hr : chp.Right nodes (l.map pv)) :
    Calls Try.prog 29 #[.slice a l.length c] w fun e w' => ∃ (mb : Nat) (r : List Pt), e = .returned (.map (some mb)) ∧ r.Perm l ∧ r.Pairwise (fun p q => p.node < q.node) ∧ CutAt w' w.heap.size mb (fun s => r.flatMap (atT s)) 80 ∧ Below w.heap.size w w' := by
  obtain ⟨j0, hj, hy0, hy1, hy2⟩ := info_parts infoCastC
  obtain ⟨hl5, h16⟩ := right_size hr
  obtain ⟨hnod, hdis, hslot⟩ := right_pts hr
  obtain ⟨w2, hw2⟩ : ∃ w2 : World, w2 = (w.alloc (.map #[] 0)).alloc (.cells #[.slice a l.length c] 22) := ⟨_, rfl⟩
  have hB2 : Below w.heap.size w w2 := by rw [hw2]; exact below_new2 _ _ _
  have hn2 := new2 w (.map #[] 0) (.cells #[.slice a l.length c] 22)
  rw [← hw2] at hn2
  obtain ⟨-, n1, hs2⟩ := hn2
  have hcut2 : CutAt w2 w.heap.size w.heap.size (fun _ => []) 0 := by rw [hw2]; exact (cut_start w).below (below_new1 _ _)
  have hsrc : SrcP w2 (w.heap.size + 2) (w.heap.size + 1) a c l := ⟨(blk1 n1).1, fun k hk => by
    obtain ⟨g, off, e, hgz, h0, h1⟩ := h.cells k hk
    exact ⟨g, off, e, by omega, (hB2.cell (p := ⟨g, _, none⟩) hgz).trans h0, (hB2.cell (p := ⟨g, _, none⟩) hgz).trans h1⟩⟩
  have HSF := Lib.hid (sortedf_ok (w.heap.size + 1) (w.heap.size + 2) a c l w2 (by omega) (by omega) hl5 hsrc hnod hdis)
  have HB2 := Lib.hid hB2
  have HC2 := Lib.hid hcut2
  have HW2 := Lib.hid hw2
  have HH := Lib.hid (fun (wr : World) (hb : Below w.heap.size w wr) => h.below hb)
  have H16 := Lib.hid h16
  have HSL := Lib.hid hslot
  have HV := Lib.hid (values_ok a l.length c (w.alloc (.map #[] 0)))
  clear h hr hnod hdis hB2 n1 hs2 hcut2 hsrc hw2 h16 hslot
  have hmm := @run_makeMap Try.prog
  go_enter Try.func29, Try.ntmps29
  go_wp2_with fail
  refine HV.out.mono ?_; rintro e w1 ⟨rfl, hw1⟩
  rw [← HW2.out] at hw1
  subst hw1
  clear HV hmm
  go_wp2_with fail
  refine HSF.out.mono ?_; rintro e w3 ⟨a', c', r, rfl, hrp, hrs, hrow, hb3⟩
  have hrl : r.length = l.length := hrp.length_eq
  rw [← hrl] at hrow hl5 ⊢
  have HRP := Lib.hid hrp
  have HRS := Lib.hid hrs
  have HROW := Lib.hid (own_mono hrow HB2.out.size)
  have HB3 := Lib.hid (below_step HB2.out hb3)
  have HC3 := Lib.hid (HC2.out.below hb3)
  have H16r : Hid (∀ q ∈ r, q.vs.length ≤ 16) := fun q hq => H16.out q (hrp.mem_iff.1 hq)
  have HSLr : Hid (∀ q ∈ r, ∀ v ∈ q.vs, 1 ≤ v.s ∧ v.s ≤ 1099511627776) := fun q hq => HSL.out q (hrp.mem_iff.1 hq)
  have HGr : Hid (∀ (wx : World), Below w.heap.size w wx → ∀ q ∈ r, GoodP wx q) := fun wx hb q hq => (HH.out wx hb).good q (hrp.mem_iff.1 hq)
  clear hrp hrs hrow hb3 HSF HC2 H16 HSL hrl
  go_wp2_with fail
  go_loopw [13] (fun i wr => ∃ k : Nat, k ≤ r.length ∧ i = .int .i64 k ∧ Hid (CutAt wr w.heap.size w.heap.size (cutG r k) (16 * k)) ∧ Hid (Below w.heap.size w wr) ∧ Hid (wr.ownsRow w.heap.size 36 2 (.slice a' r.length c') r.length (pcells r))) (fun i _ => r.length - (intOf i).toNat)
  case atStart => exact ⟨0, Nat.zero_le _, rfl, HC3, HB3, HROW⟩
  case round =>
    obtain ⟨k, hk, rfl, HC, HB, HR⟩ := hrel
    by_cases hlt : k < r.length
    · obtain ⟨g, rfl, hgz, x0, x1⟩ := pt_row HR.out hlt
      have hgp := fun (wx : World) (hb : Below w.heap.size w wx) => HGr.out wx hb _ (List.getElem_mem hlt)
      have hp16 := H16r.out _ (List.getElem_mem hlt)
      have hps := HSLr.out _ (List.getElem_mem hlt)
      have hfull := cutJ_full r k hlt
      obtain ⟨p, hp⟩ : ∃ p, p = r[k] := ⟨_, rfl⟩
      rw [← hp] at x0 x1 hgp hp16 hps hfull
      obtain ⟨w5, hw5⟩ : ∃ w5, w5 = wr.alloc (.cells #[.int .i64 p.node, .slice p.a p.vs.length p.c] 36) := ⟨_, rfl⟩
      have hn5 : w5.heap[wr.heap.size]? = some (.cells #[.int .i64 p.node, .slice p.a p.vs.length p.c] 36 (0, 0)) := by rw [hw5]; exact hp_alloc_new _ _
      have hb5 : Below wr.heap.size wr w5 := by rw [hw5]; exact below_new1 _ _
      obtain ⟨pb, hpb⟩ : ∃ pb, pb = wr.heap.size := ⟨_, rfl⟩
      rw [← hpb] at hn5
      obtain ⟨y0, y1, fy0, fy1, yz⟩ := blk2 hn5
      have HGP := Lib.hid hgp
      have HPS := Lib.hid hps
      have HFULL := Lib.hid hfull
      have HN5 := Lib.hid hn5
      have HB5 := Lib.hid (below_step HB.out hb5)
      have HR5 := Lib.hid (own_below HR.out hb5)
      have HC5 : Hid (CutAt w5 w.heap.size w.heap.size (cutJ r k p 0) (16 * k + 0)) := by
        simp only [Hid]; rw [cutJ_zero]; exact HC.out.below hb5
      have HW5 := Lib.hid hw5
      have HPB := Lib.hid hpb
      clear hgp hps hfull hp hw5 hn5 hb5 hpb
      go_upto_region 6 with fail
      rw [← HW5.out, ← HPB.out]
      clear HW5 HPB x0 x1 hgz
      go_loopw [20] (fun i wi => ∃ j : Nat, j ≤ p.vs.length ∧ i = .int .i64 j ∧ Hid (CutAt wi w.heap.size w.heap.size (cutJ r k p j) (16 * k + j)) ∧ Hid (Below w.heap.size w wi) ∧ Hid (wi.ownsRow w.heap.size 36 2 (.slice (some ⟨g, 0, none⟩) r.length c') r.length (pcells r)) ∧ Hid (wi.heap[pb]? = some (.cells #[.int .i64 p.node, .slice p.a p.vs.length p.c] 36 (0, 0)))) (fun i _ => p.vs.length - (intOf i).toNat)
      case atStart => exact ⟨0, Nat.zero_le _, rfl, HC5, HB5, HR5, HN5⟩
      case round =>
        obtain ⟨wi, rfl⟩ : ∃ wi : World, wi = wr := ⟨_, rfl⟩
        obtain ⟨j, hj', rfl, HCi, HBi, HRi, HPi⟩ := hrel
        by_cases hjt : j < p.vs.length
        · have hgw := HGP.out wi HBi.out
          obtain ⟨g2, off2, e2, hgz2, v0, v1, v2, v3⟩ := hgw.row.cells j hjt
          have hvr := HPS.out _ (List.getElem_mem hjt)
          have hstep := cutJ_step r k p j hjt
          have hlen := cutJ_len (r := r) (p := p) (j := j) H16r.out (show k ≤ 5 by omega) (show j ≤ 16 by omega) p.vs[j].s
          obtain ⟨v, hv⟩ : ∃ v, v = p.vs[j] := ⟨_, rfl⟩
          rw [← hv] at v0 v1 v2 v3 hvr hstep hlen
          obtain ⟨w7, hw7⟩ : ∃ w7, w7 = wi.alloc (.cells #[.int .i64 v.s, .int .i64 v.r, .int .i64 v.n, .slice v.a v.l.length v.c] 45) := ⟨_, rfl⟩
          have hn7 : w7.heap[wi.heap.size]? = some (.cells #[.int .i64 v.s, .int .i64 v.r, .int .i64 v.n, .slice v.a v.l.length v.c] 45 (0, 0)) := by rw [hw7]; exact hp_alloc_new _ _
          have hb7 : Below wi.heap.size wi w7 := by rw [hw7]; exact below_new1 _ _
          obtain ⟨vb, hvb⟩ : ∃ vb, vb = wi.heap.size := ⟨_, rfl⟩
          rw [← hvb] at hn7
          have hc7 := HCi.out.below hb7
          obtain ⟨ac, cc, hrowc, hlk⟩ := hc7.look (s := v.s) (by omega) (by omega)
          have hmlt := hc7.lt
          have hlk0 := hlk w7 rfl
          have hlkd := hlk w7.drew rfl
          have hlk1 := hlk (w7.alloc (.cells #[.int .i64 p.node, .int .i64 v.s, .int .i64 v.r, .int .i64 v.n, .slice v.a v.l.length v.c] 78)).drew (hp_alloc_old hmlt)
          have hbw0 : w.heap.size ≤ w7.heap.size := (below_step HBi.out hb7).size
          have HST : Hid (∀ (v' : Value) (w8 : World), w8.ownsRow w.heap.size 78 5 v' ((cutJ r k p j v.s).length + 1) ((cutJ r k p j v.s).flatMap ccells ++ ccells (p.node, v)) → (w7.alloc (.cells #[.int .i64 p.node, .int .i64 v.s, .int .i64 v.r, .int .i64 v.n, .slice v.a v.l.length v.c] 78)).drew.grownBy w8 (Value.slice ac (cutJ r k p j v.s).length cc).ownBlock → (∀ kk, v'.ownBlock = some kk → (Value.slice ac (cutJ r k p j v.s).length cc).ownBlock = some kk ∨ (w7.alloc (.cells #[.int .i64 p.node, .int .i64 v.s, .int .i64 v.r, .int .i64 v.n, .slice v.a v.l.length v.c] 78)).drew.heap.size ≤ kk) →
              ∃ w9, (Instr.mapUpdate 75 (.map (some w.heap.size)) (.int .i64 v.s) v').run Try.prog w8 = .ok () w9 ∧ CutAt w9 w.heap.size w.heap.size (cutJ r k p (j + 1)) (16 * k + (j + 1)) ∧ (∀ (k : Nat) (cs : Array Value) (T : TypeId), T ≠ 78 → w7.heap[k]? = some (Obj.cells cs T (0, 0)) → w8.heap[k]? = some (Obj.cells cs T (0, 0)) ∧ w9.heap[k]? = some (Obj.cells cs T (0, 0))) ∧ Keep (fun k => w.heap.size ≤ k) w7 w9) := by
            intro v' w8 h1 h2 h3
            obtain ⟨w9, g1, g2, g3, g4⟩ := hc7.step (x := (p.node, v)) (by omega) (by omega) (by omega) hlk0 h1 ⟨h2.os, h2.tape, h2.output, h2.size, h2.block⟩ h3 hbw0
            rw [hstep] at g2
            exact ⟨w9, g1, g2, g3, g4⟩
          obtain ⟨L, hL⟩ : ∃ L, L = cutJ r k p j v.s := ⟨_, rfl⟩
          rw [← hL] at hrowc hlkd hlk1 hlen HST
          have HROWC := Lib.hid hrowc
          have HB7 := Lib.hid (below_step HBi.out hb7)
          have HP7 := Lib.hid (hp_step HPi.out hb7)
          have HR7 := Lib.hid (own_below HRi.out hb7)
          have HN7 := Lib.hid hn7
          have HW7 := Lib.hid hw7
          have HVB := Lib.hid hvb
          obtain ⟨z0, z1, z2, z3, zz⟩ := blk4 hn7
          obtain ⟨q0, -, -, -, qz⟩ := blk2 (hp_step HPi.out hb7)
          have hpn : p.vs.length ≤ 9223372036854775807 := by omega
          have hlz : L.length ≤ 96 := hlen
          have hws : w.heap.size ≤ w7.heap.size := hbw0
          have E2 := Lib.hid e2
          rw [e2]
          clear hgw hv hw7 hn7 hb7 hvb hc7 hrowc hlk hlk0 hstep hL hlen y0 y1 fy0 fy1 yz hbw0 hvr
          go_upto_region 8 with fail
          rw [← HW7.out, ← HVB.out]
          clear v0 v1 v2 v3 hgz2 e2
          go_region_held3 (fun w' => w'.cell? ⟨vb, 0, none⟩ = some (.int .i64 v.s) ∧ w'.cell? ⟨vb, 1, none⟩ = some (.int .i64 v.r) ∧ w'.cell? ⟨vb, 2, none⟩ = some (.int .i64 v.n) ∧ w'.cell? ⟨vb, 3, none⟩ = some (.slice v.a v.l.length v.c) ∧ w'.cell? ⟨pb, 0, none⟩ = some (.int .i64 p.node))
            (first | (exact ⟨z0, z1, z2, z3, q0⟩) | (exact ⟨cell_new z0, cell_new z1, cell_new z2, cell_new z3, cell_new q0⟩) | (exact ⟨u0, u1, u2, u3, u4⟩) | (exact ⟨t0, t1, t2, t3, t4⟩) | fail)
            ((refine step_append_at rfl (.tmp 30) (.tmp 35) 81 rfl w.heap.size 78 j0 _ 5 56 Try.underlying81 hj hy0 hy1 hy2 rfl (by decide) (.slice ac L.length cc) L.length (L.flatMap ccells) rfl (own_new HROWC.out _) ⟨w7.heap.size, 0, none⟩ 1 1 (ccells (p.node, v)) rfl rfl (lie_new5 w7 _ _ _ _ _ _) (by simp [ccells, Value.oneCell']) (by unfold maxLen; omega) (by omega) (size_up hws) ?_; intro v8 w8 hown hgr hat; obtain ⟨w9, hrun, hC9, hT9, hK9⟩ := HST.out v8 w8 hown hgr hat; obtain ⟨m8, m9⟩ := hT9 vb _ _ (by decide) HN7.out; obtain ⟨p8, p9⟩ := hT9 pb _ _ (by decide) HP7.out; obtain ⟨u0, u1, u2, u3, -⟩ := blk4 m8; obtain ⟨t0, t1, t2, t3, -⟩ := blk4 m9; have u4 := (blk2 p8).1; have t4 := (blk2 p9).1; have HC9 := Lib.hid hC9; have HT9 := Lib.hid (fun cs T hT hk => (hT9 g cs T hT hk).2); have HK9 := Lib.hid hK9; have HP9 := Lib.hid p9; clear hown hgr hat hC9 hT9 hK9 m8 m9 p8 p9))
          all_goals
            have HR9 : Hid (w9.ownsRow w.heap.size 36 2 (.slice (some ⟨g, 0, none⟩) r.length c') r.length (pcells r)) := own_kept HR7.out (fun g' hg' => by
              simp only [Option.some.injEq, Addr.mk.injEq, and_true] at hg'
              subst hg'
              obtain ⟨cur, hcur⟩ := own_heap HR7.out g rfl
              rw [hcur]
              exact HT9.out cur _ (by decide) hcur)
            have HB9 : Hid (Below w.heap.size w w9) := HB7.out.trans (HK9.out.below hws (fun i hi hs => by omega))
            go_wp2_with fail
            go_roundw
            case rel => exact ⟨j + 1, by omega, by go_num, HC9, HB9, HR9, by rw [← E2.out]; exact HP9⟩
            case measure => simp [intOf]; omega
        · obtain rfl : j = p.vs.length := by omega
          have HC6 : Hid (CutAt wi w.heap.size w.heap.size (cutG r (k + 1)) (16 * (k + 1))) := by
            simp only [Hid]
            rw [← HFULL.out]
            exact HCi.out.more (by omega)
          go_wp2_with fail
          go_roundw
          case rel => exact ⟨k + 1, by omega, by go_num, HC6, HBi, HRi⟩
          case measure => simp [intOf]; omega
    · obtain rfl : k = r.length := by omega
      have HE : Hid (CutAt wr w.heap.size w.heap.size (fun s => r.flatMap (atT s)) 80) := by
        simp only [Hid]
        rw [← cutG_full]
        exact HC.out.more (by omega)
      go_wp2_with fail
      go_ret
      exact ⟨_, r, rfl, HRP.out, HRS.out, HE.out, HB.out⟩
end Go.Proofs.Ytodoncmielfbeaa.chk
