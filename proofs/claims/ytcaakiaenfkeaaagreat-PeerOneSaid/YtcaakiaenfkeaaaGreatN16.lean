/-
  A range over a function (XNetL, XClkN's lists that a loop collects; no program) that tells things of which something is known at the very moment (a packet's body just copied), and whose loop is never left early.
-/
import Derived.Test.YtcaakiaenfkeaaaGreatN01
import Derived.RangeFuncNested
import Derived.RangeFuncBound
import Derived.RangeFuncCalls
import Derived.RangeFuncLeaves
import Derived.RangeFuncFrom
import Derived.Shelf.Abstract
import Derived.Shelf.RegionOpen
import Derived.OwnWalkIn
import Derived.TacticsInMore
import Derived.LoopNIn
import Derived.LoopIn
import Derived.RangeFuncBox
import Derived.Maps.AppendAt
import Derived.Test.YtcaakiaenfkeaaaGreatN04
import Derived.Test.YtcaakiaenfkeaaaGreatN05
import Derived.Shelf.SlSortCmp.NoneTotal
import Derived.Sort.OwnSorted
namespace Go.Proofs.YtcaakiaenfkeaaaGreat.tel
open Go.ChangeShapes Go.WideShapes Go.ChangeAt Go.RowKit Go.Shelf
open Go.Proofs.YtcaakiaenfkeaaaGreat.kit Go.Proofs.YtcaakiaenfkeaaaGreat.own
set_option linter.unusedVariables false
set_option linter.unusedSimpArgs false
set_option maxHeartbeats 1000000
set_option maxRecDepth 100000

/-- What a sequence promises: it goes through all, telling each while 'Good' holds of it, as long as the loop goes on and keeps what 'Kp' says. -/
def Tells {α : Type} (F : Fence) (n : Nat) (P : Program) (g : Nat) (lb : Array Value) (encs : α → Array Value) (Kp : World → World → Prop) (Good : List α → α → World → Prop) (S : List α → Prop) (w : World) : Prop :=
  ∀ (l : Nat) (J : List α → World → Prop) (W : World), Below w.heap.size w W → AbidesFrom W.heap.size J →
    (∀ pre x W1, J pre W1 → Good pre x W1 → YieldAt F (n - 1) P l (encs x) W1 fun e W' => e = .returned (.bool true) ∧ J (pre ++ [x]) W' ∧ Kp W1 W') →
    J [] W → CallsIn F n P g (#[.func (.yield l) #[] #[]] ++ lb) W fun e W' => (∃ v, e = .returned v) ∧ ∃ xs, S xs ∧ J xs W'
def goesOn {α : Type} (Kp : World → World → Prop) (I : List α → World → Prop) (xs : List α) (W : World) : Exit → Act → World → Prop
  | .normal, _, W' => KeepsOthers W W' ∧ Kp W W' ∧ I xs W'
  | _, _, _ => False

theorem range_all {α : Type} {F : Fence} {n : Nat} {P : Program} {g : Operand} {ps : Array Tmp} {assign body : Code} {Q : Exit → Act → World → Prop} {a : Act} {w : World}
    (hro : F.round = none) (h1 : 1 ≤ n) {gf : Nat} {lb : Array Value} (hg : a.eval g = .func (.func gf) #[] lb) (hFg : F.fn gf) (eg : ∀ args w, (callFunc gf args).run P w = .ok (.enter gf args) w)
    {encs : α → Array Value} {Kp : World → World → Prop} {Good : List α → α → World → Prop} {S : List α → Prop} {w0 : World} (hseq : Tells F (n - 1) P gf lb encs Kp Good S w0)
    (hKt : ∀ {A B C : World}, Kp A B → Kp B C → Kp A C) (hKb : ∀ (W : World) (l : Nat) (o : Obj), w.heap.size ≤ l → Kp W (W.putObj l o)) (hKa : ∀ (W : World) (o : Obj), w.heap.size ≤ W.heap.size → Kp W (W.alloc o))
    (hGb : ∀ (pre : List α) (x : α) (W : World) (l : Nat) (o o' : Obj), w.heap.size ≤ l → W.heap[l]? = some o → o.isCells = false → Good pre x W → Good pre x (W.putObj l o')) (hGa : ∀ (pre : List α) (x : α) (W : World) (o : Obj), Good pre x W → Good pre x (W.alloc o))
    (hb0 : Below w0.heap.size w0 w) (hps : ∀ x, (encs x).size = ps.size)
    (I : List α → World → Prop) (hI : OwnFrom w.heap.size I) (h0 : I [] w) (a₁ : α → Nat → Act) (gA : α → Obj)
    (hassign : ∀ (l : Nat) (x : α) (W : World) (K : Act → World → Prop), K (a₁ x W.heap.size) (W.alloc (gA x)) →
      assign.wpIn (F.inRound l) (n - 1 - 1) P (Exit.then K (fun _ _ _ => False)) { tmps := (ps.zip (encs x)).foldl (fun t (p, v) => t.setIfInBounds p v) a.tmps, defers := [] } W)
    (hbody : ∀ (l : Nat) (pre : List α) (x : α) (A : Nat) (W : World), w.heap.size ≤ A → W.heap[A]? = some (gA x) → I pre W → Good pre x W → body.wpIn (F.inRound l) (n - 1 - 1) P (goesOn Kp I (pre ++ [x]) W) (a₁ x A) W)
    (hdone : ∀ (D : Nat) (xs : List α) (W : World), w.heap.size ≤ D → S xs → I xs W → W.heap[D]? = some (.deferred (some [])) → Q .normal { a with defers := { target := .collected D, args := #[] } :: a.defers } W) :
    (Code.rangeFunc g ps assign body).wpIn F n P Q a w := by
  refine wpIn_rangeFunc (fun fn hfn => ?_)
  rw [hro]
  -- the loop's own object, and the two blocks that the loop lays
  let lp : LoopState → Option Code → Loop := fun st pe => { state := st, pending := pe, fn, tmps := a.tmps, params := ps, assign, body, defers := w.heap.size }
  obtain ⟨V, hV⟩ : ∃ V, V = (w.alloc (.deferred (some []))).alloc (.loop (lp .ready none)) := ⟨_, rfl⟩
  have hVl : V.heap[w.heap.size + 1]? = some (.loop (lp .ready none)) := by
    have := hp_alloc_new (w.alloc (.deferred (some []))) (.loop (lp .ready none))
    rw [size_new] at this
    rw [hV]; exact this
  have hVd : V.heap[w.heap.size]? = some (.deferred (some [])) := by rw [hV]; exact hp_new (hp_alloc_new w _)
  have hVs : V.heap.size = w.heap.size + 1 + 1 := by rw [hV, size_new, size_new]
  have hVI : I [] V := by rw [hV]; exact hI.alloc _ (hI.alloc _ h0)
  have hVb : Below w0.heap.size w0 V := by rw [hV]; exact below_step (below_step hb0 (below_new1 _ _)) (below_new1 _ _)
  -- what holds of the loop's two blocks between two rounds
  let Bk : World → Prop := fun W => W.heap[w.heap.size + 1]? = some (.loop (lp .ready none)) ∧ W.heap[w.heap.size]? = some (.deferred (some []))
  refine ⟨w.heap.size + 1, [{ target := .collected w.heap.size, args := #[] }], V, { target := .fn (.func gf) lb, args := #[.func (.yield (w.heap.size + 1)) #[] #[]] }, V, gf,
    #[.func (.yield (w.heap.size + 1)) #[] #[]] ++ lb, V, by rw [hV]; exact run_enterLoop_outer _ _ _ _ _, by simp only [resolve, hg]; simp [go_sem],
    fun f' hf' => by simp [Target.leads] at hf'; subst hf'; exact hFg, by simp [invoke, go_sem, eg], fun _ => h1, ?_⟩
  refine (hseq (w.heap.size + 1) (fun pre W => I pre W ∧ Bk W) V hVb ?_ ?_ ⟨hVI, hVl, hVd⟩).mono ?_
  · -- growth keeps all this
    intro s A B row ⟨hs1, hs2, hs3⟩ hgr hr
    have hc : ∀ r, row = some r → ∃ o : Obj, A.heap[r]? = some o ∧ o.isCells = false := fun r e => by
      obtain ⟨_, o, ho, hw⟩ := hr r e
      exact ⟨o, ho, Obj.not_cells_of_walk hw⟩
    refine ⟨hI s A B row hs1 hgr (fun r e => ?_), ?_, ?_⟩
    · obtain ⟨o, ho, hw⟩ := hc r e
      exact ⟨by have := (hr r e).1; omega, o, ho, hw⟩
    · refine (hgr.block _ (Array.getElem?_eq_some_iff.1 hs2).1 (fun e => ?_)).trans hs2
      have := (hr _ e.symm).1
      omega
    · refine (hgr.block _ (Array.getElem?_eq_some_iff.1 hs3).1 (fun e => ?_)).trans hs3
      have := (hr _ e.symm).1
      omega
  · -- one round
    rintro pre x W ⟨hi, hl, hd⟩ hgood
    have hlt := (Array.getElem?_eq_some_iff.1 hl).1
    obtain ⟨V2, hV2⟩ : ∃ V2, V2 = W.alloc (gA x) := ⟨_, rfl⟩
    have hl2 : V2.heap[w.heap.size + 1]? = some (.loop (lp .ready none)) := by rw [hV2]; exact hp_new hl
    have hd2 : V2.heap[w.heap.size]? = some (.deferred (some [])) := by rw [hV2]; exact hp_new hd
    have hx2 : V2.heap[W.heap.size]? = some (gA x) := by rw [hV2]; exact hp_alloc_new _ _
    have hlt2 := (Array.getElem?_eq_some_iff.1 hl2).1
    refine ⟨fn, _, assign, body, run_yield (P := P) (args := encs x) hl (hps x), roundIn_of_wpIn hfn (hassign _ x W _ ?_)⟩
    rw [← hV2]
    refine ⟨_, run_beginRound hl2 rfl, ?_⟩
    obtain ⟨U, hU⟩ : ∃ U, U = V2.putObj (w.heap.size + 1) (.loop { lp .ready none with state := .busy }) := ⟨_, rfl⟩
    have hUl : U.heap[w.heap.size + 1]? = some (.loop { lp .ready none with state := .busy }) := by rw [hU]; exact World.putObj_heap_same hlt2
    have hUd : U.heap[w.heap.size]? = some (.deferred (some [])) := by rw [hU]; exact (World.putObj_heap_other (by omega)).trans hd2
    have hUx : U.heap[W.heap.size]? = some (gA x) := by rw [hU]; exact (World.putObj_heap_other (by omega)).trans hx2
    have hUi : I pre U := by rw [hU, hV2]; exact hI.putObj _ (hI.alloc _ hi) (by omega) (hV2 ▸ hl2) rfl
    have hUk : Kp W U := by rw [hU, hV2]; exact hKt (hKa _ _ (by omega)) (hKb _ _ _ (by omega))
    have hUg : Good pre x U := by rw [hU, hV2]; exact hGb pre x _ _ _ _ (by omega) (hV2 ▸ hl2) rfl (hGa _ _ _ _ hgood)
    rw [← hU]
    refine wpIn_mono (hbody _ pre x _ U (by omega) hUx hUi hUg) ?_
    rintro e a3 W3 hp
    cases e with
    | normal =>
      obtain ⟨ho3, hk3, hi3⟩ := hp
      have hl3 := ho3.same _ _ hUl rfl
      have hz3 := (Array.getElem?_eq_some_iff.1 hl3).1
      refine ⟨_, _, run_endRound (P := P) none hl3, rfl, ⟨hI.putObj _ hi3 (by omega) hl3 rfl, World.putObj_heap_same hz3, (World.putObj_heap_other (by omega)).trans (ho3.same _ _ hUd rfl)⟩, hKt (hKt hUk hk3) (hKb _ _ _ (by omega))⟩
    | ret => exact hp.elim
    | exit id => exact hp.elim
    | goto t => exact hp.elim
    | panic ch => exact hp.elim
    | outgrown => exact hp.elim
  · -- behind all
    rintro e W2 ⟨⟨v, rfl⟩, xs, hS, hi, hl, hd⟩
    exact ⟨none, _, run_endLoop (P := P) hl (by simp [lp]), hdone _ xs _ (Nat.le_refl _) hS (hI.putObj _ hi (by omega) hl rfl) ((World.putObj_heap_other (by omega)).trans hd)⟩

/-- Some blocks are as they were. -/
def Between (lo hi : Nat) (W W' : World) : Prop := W.heap.size ≤ W'.heap.size ∧ ∀ j, lo ≤ j → j < hi → W'.heap[j]? = W.heap[j]?
theorem Between.refl (lo hi : Nat) (W : World) : Between lo hi W W := ⟨Nat.le_refl _, fun _ _ _ => rfl⟩
theorem Between.trans {lo hi : Nat} {A B C : World} (h : Between lo hi A B) (k : Between lo hi B C) : Between lo hi A C := ⟨Nat.le_trans h.1 k.1, fun j h1 h2 => (k.2 j h1 h2).trans (h.2 j h1 h2)⟩
theorem Between.of_below {lo hi n : Nat} {A B : World} (h : Below n A B) (hn : hi ≤ n) : Between lo hi A B := ⟨h.size, fun j _ h2 => h.block j (by omega)⟩
theorem Between.alloc {lo hi : Nat} {A B : World} (h : Between lo hi A B) (hi2 : hi ≤ A.heap.size) (o : Obj) : Between lo hi A (B.alloc o) := h.trans (Between.of_below (below_new1 B o) (Nat.le_trans hi2 h.1))
theorem between_b {lo hi : Nat} {w : World} (h : hi ≤ w.heap.size) : ∀ (W : World) (l : Nat) (o o' : Obj), w.heap.size ≤ l → W.heap[l]? = some o → o.isCells = false → o.isWalk = false → Between lo hi W (W.putObj l o') := by
  intro W l o o' h1 _ _ _
  have hg := grownBy_putObj' W l o'
  refine ⟨hg.size, fun j _ h3 => ?_⟩
  by_cases hj : j < W.heap.size
  · exact hg.block j hj (by simp; omega)
  · have e : (W.putObj l o').heap.size = W.heap.size := by simp [World.putObj]
    rw [Array.getElem?_eq_none (by omega), Array.getElem?_eq_none (by omega)]
theorem cell_same {w w' : World} {b o : Nat} (h : w'.heap[b]? = w.heap[b]?) : w'.cell? ⟨b, o, none⟩ = w.cell? ⟨b, o, none⟩ := by simp [World.cell?, h]
theorem blk_kept {W W' : World} {row : Option Nat} {b : Nat} {cs : Array Value} {T : TypeId} (h : W.heap[b]? = some (.cells cs T (0, 0))) (hg : W.grownBy W' row) (hrow : ∀ r, row = some r → ∃ o : Obj, W.heap[r]? = some o ∧ o.isCells = false) : W'.heap[b]? = some (.cells cs T (0, 0)) :=
  (grownBy_keeps_cells hg hrow h rfl).trans h
/-- A list that a loop collects in a box. -/
def Coll (V : World) (b : Nat) (T E : TypeId) (size n : Nat) (xs : List Value) (W : World) : Prop :=
  ∃ a c, W.heap[b]? = some (.cells #[.slice a n c] T (0, 0)) ∧ W.ownsRow V.heap.size E size (.slice a n c) n xs ∧ Keep (fun k => k = b) V W
theorem own_grown {W W' : World} {base : Nat} {e : TypeId} {size n : Nat} {v : Value} {xs : List Value} {row : Option Nat} (h : W.ownsRow base e size v n xs) (hg : W.grownBy W' row) (hr : ∀ r, row = some r → ∃ o : Obj, W.heap[r]? = some o ∧ o.isCells = false) : W'.ownsRow base e size v n xs := by
  refine h.kept hg ?_
  rcases h.2 with ⟨rfl, _⟩ | ⟨g, cap, cur, rfl, _, hgb, _⟩
  · exact .inl rfl
  · refine .inr fun e' => ?_
    obtain ⟨o, ho, hc⟩ := hr g (by rw [← e']; rfl)
    rw [hgb] at ho; cases ho; cases hc
theorem Keep.grown' {S : Nat → Prop} {a W W' : World} {row : Option Nat} (h : Keep S a W) (hg : W.grownBy W' row) (hr : ∀ j, row = some j → a.heap.size ≤ j) : Keep S a W' :=
  ⟨hg.os.trans h.os, hg.tape.trans h.tape, hg.output.trans h.output, Nat.le_trans h.size hg.size, fun k hk hs => (hg.block k (Nat.lt_of_lt_of_le hk h.size) (fun e => by have := hr k e.symm; omega)).trans (h.block k hk hs)⟩
theorem coll_own {β : Type} (V : World) (b : Nat) (T E : TypeId) (size : Nat) (len : β → Nat) (g : β → List Value) : OwnFrom V.heap.size (fun s W => Coll V b T E size (len s) (g s) W) := by
  intro s W W' row hs hg hr
  obtain ⟨a, c, h1, h2, h3⟩ := hs
  exact ⟨a, c, blk_kept h1 hg (fun r e => (hr r e).2), own_grown h2 hg (fun r e => (hr r e).2), Keep.grown' h3 hg (fun j e => (hr j e).1)⟩
theorem coll_start {V : World} {b : Nat} {T E : TypeId} {size : Nat} (h : V.heap[b]? = some (.cells #[.slice none 0 0] T (0, 0))) : Coll V b T E size 0 [] V :=
  ⟨none, 0, h, World.ownsRow_nil _ _ _ _, Keep.refl _ _⟩
theorem coll_step {V W W1 : World} {b hi : Nat} {T E : TypeId} {size n c : Nat} {a : Option Addr} {xs news : List Value} {o : Obj} {v' : Value}
    (hbV : b < V.heap.size) (h1 : W.heap[b]? = some (.cells #[.slice a n c] T (0, 0))) (h2 : W.ownsRow V.heap.size E size (.slice a n c) n xs) (h3 : Keep (fun k => k = b) V W)
    (hg : (W.alloc o).grownBy W1 (Value.slice a n c).ownBlock) (hr : W1.ownsRow V.heap.size E size v' (n + 1) (xs ++ news)) (hlo : hi ≤ b) :
    ∃ a' c', v' = .slice a' (n + 1) c' ∧ W1.heap[b]? = some (.cells #[.slice a n c] T (0, 0)) ∧ KeepsOthers W (W1.setCell ⟨b, 0, none⟩ v') ∧ Between 0 hi W (W1.setCell ⟨b, 0, none⟩ v') ∧ (W1.setCell ⟨b, 0, none⟩ v').heap[b]? = some (.cells #[v'] T (0, 0)) ∧ Coll V b T E size (n + 1) (xs ++ news) (W1.setCell ⟨b, 0, none⟩ v') := by
  obtain ⟨a', c', rfl⟩ := own_shape hr
  have hrow : ∀ j, (Value.slice a n c).ownBlock = some j → V.heap.size ≤ j := by
    intro j e
    rcases h2.2 with ⟨e', _⟩ | ⟨g', cap, cur, e', hg', hh, _⟩
    · rw [e'] at e; simp [Value.ownBlock] at e
    · rw [e'] at e; simp only [Value.ownBlock, Option.some.injEq] at e; omega
  have hzb : b < (W.alloc o).heap.size := by have := h3.size; rw [size_new]; omega
  have hW1 : W1.heap[b]? = some (.cells #[.slice a n c] T (0, 0)) := (hg.block b hzb (fun e => by have := hrow b e.symm; omega)).trans (hp_new h1)
  have hke : KeepsOthers W (W1.setCell ⟨b, 0, none⟩ (.slice a' (n + 1) c')) := by
    refine ((KeepsOthers.alloc W o).trans (KeepsOthers.of_grownBy hg ?_)).trans (KeepsOthers.setCell _ _ _)
    intro j ob e ho
    rcases h2.2 with ⟨e', _⟩ | ⟨g', cap, cur, e', hg', hh, _⟩
    · rw [e'] at e; simp [Value.ownBlock] at e
    · rw [e'] at e; simp only [Value.ownBlock, Option.some.injEq] at e
      subst e
      rw [hp_new hh] at ho
      cases ho; rfl
  have hset : (W1.setCell ⟨b, 0, none⟩ (.slice a' (n + 1) c')).heap[b]? = some (.cells #[.slice a' (n + 1) c'] T (0, 0)) := hp_set hW1 0 _
  refine ⟨a', c', rfl, hW1, hke, ?_, hset, a', c', hset, own_kept hr (fun g hg' => hp_set_ne (a := ⟨b, 0, none⟩) (by have := (own_from hr g hg').1; show g ≠ b; omega)), (Keep.grown' (h3.alloc o) hg hrow).setCell (p := ⟨b, 0, none⟩) (.inr rfl) _⟩
  refine ⟨by have := hg.size; rw [size_new] at this; rw [size_set]; omega, fun j _ h6 => ?_⟩
  have hz := h3.size
  refine (hp_set_ne (a := ⟨b, 0, none⟩) (by show j ≠ b; omega)).trans ((hg.block j (by rw [size_new]; omega) (fun e => by have := hrow j e.symm; omega)).trans (hp_alloc_old (by omega)))
theorem put_keeps {X WF : World} {D : Nat} {o : Obj} (h : X = WF.putObj D o) : WF.grownBy X (some D) ∧ ∀ k, k ≠ D → k < WF.heap.size → X.heap[k]? = WF.heap[k]? := by
  rw [h]
  have := grownBy_putObj' WF D o
  exact ⟨this, fun k hk hz => this.block k hz (fun e => hk (Option.some.inj e))⟩

end Go.Proofs.YtcaakiaenfkeaaaGreat.tel
/-
  slices.Values, AppendSeq, Collect at promises.
-/
namespace Go.Proofs.YtcaakiaenfkeaaaGreat.chv
open Go.ChangeShapes Go.WideShapes Go.ChangeAt Go.RowKit Go.Shelf
open Go.Proofs.YtcaakiaenfkeaaaGreat.kit Go.Proofs.YtcaakiaenfkeaaaGreat.own Go.Proofs.YtcaakiaenfkeaaaGreat.accd Go.Proofs.YtcaakiaenfkeaaaGreat.chd Go.Proofs.YtcaakiaenfkeaaaGreat.che Go.Proofs.YtcaakiaenfkeaaaGreat.tel
set_option linter.unusedVariables false
set_option linter.unusedSimpArgs false
set_option maxHeartbeats 1000000
set_option maxRecDepth 100000
attribute [local go_sem] Oper.semAt_some

theorem infoProm : (Tryz.prog.info? 115).map (fun i => (i.zero, i.size, i.bytes)) = some (some (.agg #[.int .i64 0, .slice none 0 0]), 2, 32) := by kernel_rfl
theorem pcells_len (p : Pt) : p.cells.length = 2 := rfl
def pcells (l : List Pt) : List Value := l.flatMap Pt.cells
theorem lie_new2' (w : World) (T : TypeId) (x y : Value) : Lie (w.alloc (.cells #[x, y] T)) (some ⟨w.heap.size, 0, none⟩) [x, y] := by
  refine .inr ⟨_, 0, rfl, by rw [size_new]; omega, fun i hi => ?_⟩
  have hb := (kit.blk (hp_alloc_new w (.cells #[x, y] T))).1
  rw [Nat.zero_add, hb]
  match i, hi with
  | 0, _ => rfl
  | 1, _ => rfl
theorem lie_adds {w : World} {ad : Addr} {news : List Value} (hlie : Lie w (some ad) news) : ∀ j u, news[j]? = some u → w.cell? (ad.add j) = some u := by
  intro j u hj
  rcases hlie with rfl | ⟨b, off, e1, hb, hc⟩
  · simp at hj
  · simp only [Option.some.injEq] at e1
    subst e1
    have hjl : j < news.length := (List.getElem?_eq_some_iff.1 hj).1
    have := hc j hjl
    rw [hj] at this
    unfold Addr.add
    split
    · next h0 => subst h0; simpa using this
    · exact this
/-- Where the promises lie that a sequence goes through. -/
def SrcP (w : World) (hi B : Nat) (a : Option Addr) (c : Nat) (l : List Pt) : Prop :=
  w.cell? ⟨B, 0, none⟩ = some (.slice a l.length c) ∧ ∀ k (hk : k < l.length), ∃ g off, a = some ⟨g, off, none⟩ ∧ g < hi ∧ w.cell? ⟨g, off + k * 2, none⟩ = some (.int .i64 l[k].node) ∧ w.cell? ⟨g, off + k * 2 + 1, none⟩ = some (.slice l[k].a l[k].vs.length l[k].c)
theorem SrcP.keep {w w' : World} {hi B c : Nat} {a : Option Addr} {l : List Pt} (h : SrcP w hi B a c l) (hB : B < hi) (hk : ∀ j, j < hi → w'.heap[j]? = w.heap[j]?) : SrcP w' hi B a c l :=
  ⟨(cell_same (hk B hB)).trans h.1, fun k hk' => by
    obtain ⟨g, off, e, hg, h1, h2⟩ := h.2 k hk'
    exact ⟨g, off, e, hg, (cell_same (hk g hg)).trans h1, (cell_same (hk g hg)).trans h2⟩⟩

/-- The closure of slices.Values: it tells all, one behind the other. -/
theorem vals_it (n : Nat) (hn : 1 ≤ n) (hi B : Nat) (a : Option Addr) (c : Nat) (l : List Pt) (w : World) (hB : B < hi) (hhi : hi ≤ w.heap.size) (hl : l.length ≤ 5) (h : SrcP w hi B a c l) :
    Tells Fence.wide n Tryz.prog 82 #[.pointer (some ⟨B, 0, none⟩)] (fun x : Pt => #[x.val]) (Between 0 hi) (fun pre x _ => pre ++ [x] <+: l) (fun xs => xs = l) w := by
  intro lb J W hW hJ hY h0
  have HS : Hid (∀ wr, Between 0 hi W wr → SrcP wr hi B a c l) := fun wr hb => h.keep hB (fun j hj => (hb.2 j (Nat.zero_le _) hj).trans (hW.block j (by omega)))
  have HY := Lib.hid hY
  have HJ := Lib.hid hJ
  have hs : hi ≤ W.heap.size := by have := hW.size; omega
  have c1 := (HS.out W (Between.refl _ _ _)).1
  have z1 : B < W.heap.size := by omega
  clear h hY hJ hW
  refine callsIn_of_wp Tryz.func82 rfl trivial ?_ rfl
  simp only [Tryz.ntmps82, List.size_toArray, List.length_cons, List.length_nil, Nat.reduceAdd, Nat.reduceSub, Array.replicate_succ, Array.replicate_zero, List.push_toArray, List.append_toArray, List.nil_append, List.cons_append]
  gi_wp2
  gi_loopw [7] (fun i wr => ∃ k : Nat, k ≤ l.length ∧ i = .int .i64 k ∧ J (l.take k) wr ∧ Between 0 hi W wr)
    (fun i _ => l.length - (intOf i).toNat)
  case atStart => exact ⟨0, Nat.zero_le _, rfl, h0, Between.refl _ _ _⟩
  case round =>
    obtain ⟨k, hk, rfl, hJs, hb⟩ := hrel
    have HB := Lib.hid hb
    have d2 := (HS.out wr hb).2
    by_cases hlt : k < l.length
    · obtain ⟨g, off, rfl, hgz, r0, r1⟩ := d2 k hlt
      have hgw : g < wr.heap.size := by have := hb.1; omega
      have hpre : l.take (k + 1) = l.take k ++ [l[k]] := List.take_succ_eq_append_getElem hlt
      have hgood : l.take k ++ [l[k]] <+: l := by rw [← hpre]; exact List.take_prefix _ _
      obtain ⟨p, hp⟩ : ∃ p, p = l[k] := ⟨_, rfl⟩
      rw [← hp] at r0 r1 hpre hgood
      obtain ⟨wA, hwA⟩ : ∃ wA : World, wA = wr.alloc (.cells #[.int .i64 p.node, .slice p.a p.vs.length p.c] 115) := ⟨_, rfl⟩
      have hbA : Below wr.heap.size wr wA := by rw [hwA]; exact below_new1 _ _
      have hJ2 := HJ.out (l.take k) wr wA none hJs ⟨hbA.os, hbA.tape, hbA.output, hbA.size, fun j hj _ => hbA.block j hj⟩ (by simp)
      have hka : Between 0 hi W wA := HB.out.trans (Between.of_below hbA (by have := HB.out.1; omega))
      rw [hwA] at hka
      have HKA := Lib.hid hka
      have HSU := Lib.hid hpre
      have HWA := Lib.hid hwA
      obtain ⟨fn, tmps, assign, body, hy, hR⟩ := HY.out (l.take k) p wA hJ2 hgood
      rw [hwA] at hy hR
      dsimp only [Pt.val] at hy
      clear d2 hb hp hbA hka hwA hJ2 hgood hpre
      gi_wp2
      refine hR.mono ?_
      rintro e W3 ⟨rfl, hJ3, hk3⟩
      have HK3 := Lib.hid (HKA.out.trans hk3)
      clear hk3
      gi_wp2
      go_roundw
      case rel => exact ⟨k + 1, by omega, by go_num, by rw [HSU.out]; exact hJ3, HK3.out⟩
      case measure => simp [intOf]; omega
    · obtain rfl : k = l.length := by omega
      rw [List.take_length] at hJs
      clear d2
      gi_wp2
      exact bodyPost_end (v := .tuple #[]) (by simp [results, Tryz.results82, go_sem]) rfl ⟨⟨_, rfl⟩, _, rfl, hJs⟩

theorem pcells_snoc (l : List Pt) (p : Pt) : pcells (l ++ [p]) = pcells l ++ p.cells := by simp [pcells]
theorem append_ok (B hi : Nat) (a : Option Addr) (c : Nat) (l : List Pt) (w : World) (hB : B < hi) (hhi : hi ≤ w.heap.size) (hl : l.length ≤ 5) (h : SrcP w hi B a c l) :
    Calls Tryz.prog 94 #[.slice none 0 0, .func (.func 82) #[] #[.pointer (some ⟨B, 0, none⟩)]] w fun e w' => ∃ v, e = .returned v ∧ w'.ownsRow w.heap.size 115 2 v l.length (pcells l) ∧ Below w.heap.size w w' := by
  refine (callsIn_wide (n := 5)).1 ?_
  refine callsIn_of_wp_marks Tryz.func94 rfl trivial ?_ rfl
  simp only [Tryz.ntmps94, List.size_toArray, List.length_cons, List.length_nil, Nat.reduceAdd, Nat.reduceSub, Array.replicate_succ, Array.replicate_zero, List.push_toArray, List.append_toArray, List.nil_append, List.cons_append]
  obtain ⟨w0, hw0⟩ : ∃ w0 : World, w0 = w.alloc (.cells #[.slice none 0 0] 113) := ⟨_, rfl⟩
  have ha0 : w0.heap[w.heap.size]? = some (.cells #[.slice none 0 0] 113 (0, 0)) := by rw [hw0]; exact hp_alloc_new w _
  have hB0 : Below w.heap.size w w0 := by rw [hw0]; exact below_new1 w _
  have hsz0 : w0.heap.size = w.heap.size + 1 := by rw [hw0, size_new]
  have h0 : SrcP w0 hi B a c l := h.keep hB (fun j hj => hB0.block j (by omega))
  have HIT := Lib.hid (fun n hn => vals_it n hn hi B a c l w0 hB (by omega) hl h0)
  clear h h0
  gi_wp2
  rw [← hw0]
  clear hw0
  refine range_all rfl (by omega) (gf := 82) (lb := #[.pointer (some ⟨B, 0, none⟩)]) rfl trivial (enters_of Tryz.func82 (by kernel_rfl) rfl)
    (HIT.out 4 (by omega)) Between.trans (fun W l' o hl' => ?put1) (fun W o hW => Between.of_below (below_new1 W o) (by omega)) (fun _ _ _ _ _ _ _ _ _ h => h) (fun _ _ _ _ h => h) (Below.refl _ _) (fun _ => rfl)
    (fun pre W => Coll w0 w.heap.size 113 115 2 pre.length (pcells pre) W) (coll_own w0 w.heap.size 113 115 2 _ _) (coll_start ha0)
    (fun x A => { tmps := #[.slice none 0 0, .func (.func 82) #[] #[.pointer (some ⟨B, 0, none⟩)], .pointer (some ⟨w.heap.size, 0, none⟩), undef, .slice none 0 0, .pointer (some ⟨A, 0, none⟩), .func (.func 82) #[] #[.pointer (some ⟨B, 0, none⟩)], x.val, undef, undef, undef, undef, undef], defers := [] })
    (fun x => .cells #[.int .i64 x.node, .slice x.a x.vs.length x.c] 115) ?assign1 ?body1 ?done1
  case put1 =>
    have hg := grownBy_putObj' W l' o
    refine ⟨hg.size, fun j _ h3 => ?_⟩
    by_cases hj : j < W.heap.size
    · exact hg.block j hj (by simp; omega)
    · have e : (W.putObj l' o).heap.size = W.heap.size := by simp [World.putObj]
      rw [Array.getElem?_eq_none (by omega), Array.getElem?_eq_none (by omega)]
  case assign1 =>
    intro lb x W K hK
    simp only [Pt.val]
    gi_wp2
    simpa [Pt.val] using hK
  case body1 =>
    rintro lb pre x A W hA hbA ⟨a, c, hb, hr, hK⟩ hgood
    have hlt2 : pre.length < 64 := by have := hgood.length_le; rw [List.length_append] at this; simp at this; omega
    obtain ⟨q0, q1, q2⟩ := blk1 hb
    obtain ⟨p0, p1, pf0, pf1, pz⟩ := blk2 hbA
    obtain ⟨j0, hj, hy0, hy1, hy2⟩ := info_parts infoProm
    have hKs := hK.size
    have HB := Lib.hid hb
    have HR := Lib.hid hr
    have HK := Lib.hid hK
    clear hb hr hK hgood hbA
    gi_wp2_with (gi_at_builtin; refine wpListIn_append_own _ rfl _ _ 113 rfl w0.heap.size 115 j0 (.agg #[.int .i64 0, .slice none 0 0]) 2 32 Tryz.underlying113 hj hy0 hy1 hy2 rfl (by decide) _ _ _ rfl (HR.out.alloc _) ⟨W.heap.size, 0, none⟩ 1 1 x.cells rfl rfl (lie_adds (lie_new2' _ _ _ _)) (by simp [Pt.cells, Value.oneCell']) (by unfold maxLen; omega) (by omega) (by rw [size_new]; omega) ?_; intro v' W1 hown' hgrow _; obtain ⟨a5, c5, rfl, hW1, hke, hbt, hset, hco⟩ := coll_step (hi := hi) (by omega) HB.out HR.out HK.out hgrow hown' (by omega); obtain ⟨e0, e1, e2⟩ := blk1 hW1; have hsc := (blk1 hset).1; have HW1 := Lib.hid hset; have HKE := Lib.hid hke; have HBT := Lib.hid hbt; have HCO := Lib.hid hco; clear hown' hgrow hW1 hke hbt hset hco)
    exact ⟨HKE.out, HBT.out, by dsimp only; rw [List.length_append, pcells_snoc]; exact HCO.out⟩
  case done1 =>
    rintro D xs W hD rfl ⟨a1, c1, hg1, ho1, hk1⟩ hK1
    have hBW : Below w.heap.size w W := hB0.trans (hk1.below (Nat.le_of_lt (by omega)) (fun k hk => by omega))
    obtain ⟨q0, q1, q2⟩ := blk1 hg1
    gi_wp2
    refine ⟨by simp, .inl ⟨_, _, rfl, run_takeDeferred hK1, ?_⟩⟩
    obtain ⟨X, hX⟩ : ∃ X, X = W.putObj D (.deferred none) := ⟨_, rfl⟩
    have p3 := put_keeps hX
    have y0 := ownsRow_putObj ho1 (.deferred none) hK1 rfl
    rw [← hX] at y0 ⊢
    have hB3 : Below w.heap.size w X := hBW.grown p3.1 hBW.size (fun j hj => by simp at hj; omega)
    exact ⟨.slice a1 xs.length c1, by simp [results, Tryz.results94, go_sem, Result.andThen], _, rfl, own_mono y0 (by omega), hB3⟩

theorem values_ok (a : Option Addr) (n c : Nat) (w : World) : Calls Tryz.prog 72 #[.slice a n c] w fun e w' => e = .returned (.func (.func 82) #[] #[.pointer (some ⟨w.heap.size, 0, none⟩)]) ∧ w' = w.alloc (.cells #[.slice a n c] 113) := by
  go_enter Tryz.func72, Tryz.ntmps72
  go_wp2_with fail
  exact bodyPost_ret (v := .func (.func 82) #[] #[.pointer (some ⟨w.heap.size, 0, none⟩)]) (by simp [results, Tryz.results72, go_sem]) rfl ⟨rfl, rfl⟩

theorem collect_ok (B hi : Nat) (a : Option Addr) (c : Nat) (l : List Pt) (w : World) (hB : B < hi) (hhi : hi ≤ w.heap.size) (hl : l.length ≤ 5) (h : SrcP w hi B a c l) :
    Calls Tryz.prog 80 #[.func (.func 82) #[] #[.pointer (some ⟨B, 0, none⟩)]] w fun e w' => ∃ v, e = .returned v ∧ w'.ownsRow w.heap.size 115 2 v l.length (pcells l) ∧ Below w.heap.size w w' := by
  have HA := Lib.hid (append_ok B hi a c l w hB hhi hl h)
  clear h
  go_enter Tryz.func80, Tryz.ntmps80
  go_wp2_with fail
  refine HA.out.mono ?_; rintro e w1 ⟨v, rfl, ho, hb⟩
  have HO := Lib.hid ho
  have HB := Lib.hid hb
  clear ho hb
  go_wp2_with fail
  go_ret
  exact ⟨v, rfl, HO.out, HB.out⟩
end Go.Proofs.YtcaakiaenfkeaaaGreat.chv
/-
  slices.SortFunc, SortedFunc at promises: they stand by their nodes.
-/
namespace Go.Proofs.YtcaakiaenfkeaaaGreat.chs
open Go.ChangeShapes Go.WideShapes Go.ChangeAt Go.RowKit Go.Shelf Go.Sort
open Go.Proofs.YtcaakiaenfkeaaaGreat.kit Go.Proofs.YtcaakiaenfkeaaaGreat.own Go.Proofs.YtcaakiaenfkeaaaGreat.accd Go.Proofs.YtcaakiaenfkeaaaGreat.chd Go.Proofs.YtcaakiaenfkeaaaGreat.che Go.Proofs.YtcaakiaenfkeaaaGreat.tel Go.Proofs.YtcaakiaenfkeaaaGreat.chv
set_option linter.unusedVariables false
set_option linter.unusedSimpArgs false
set_option maxHeartbeats 1000000
set_option maxRecDepth 100000

section
variable {α : Type} [Inhabited α]
theorem sw_hp (enc : α → List Value) (k0 : Nat) (w : World) (blk off m : Nat) (dk : Array α) (os : Array Obj) {k : Nat} (hk : k < w.heap.size) (hne : k ≠ blk) : (sortWorldK enc k0 w blk off m dk os).heap[k]? = w.heap[k]? := by
  unfold sortWorldK
  rw [heap_grow_old _ _ (by simpa [putRowK] using hk)]
  have : blk ≠ k := fun e => hne e.symm
  simp [putRowK, putRow, mapBlock, Sort.ahead, Array.getElem?_modify, this]
theorem sw_row (enc : α → List Value) (k0 : Nat) (w : World) (g m : Nat) (dk : Array α) (os : Array Obj) {cur : Array Value} {e : TypeId} {fr : Nat × Nat} (hb : w.heap[g]? = some (.cells cur e fr)) :
    (sortWorldK enc k0 w g 0 m dk os).heap[g]? = some (.cells (putCells id 0 (flatK enc k0 dk) cur) e fr) := by
  have hg : g < w.heap.size := (Array.getElem?_eq_some_iff.1 hb).1
  unfold sortWorldK
  rw [heap_grow_old _ _ (by simpa [putRowK] using hg)]
  simp [putRowK, putRow, mapBlock, Sort.ahead, Array.getElem?_modify, hb, onCells]
theorem sw_size (enc : α → List Value) (k0 : Nat) (w : World) (blk off m : Nat) (dk : Array α) (os : Array Obj) : w.heap.size ≤ (sortWorldK enc k0 w blk off m dk os).heap.size := by
  unfold sortWorldK
  simp [grow, putRowK, putRow, mapBlock, Sort.ahead]
theorem flat_get! (enc : α → List Value) {k0 : Nat} (h0 : 0 < k0) (hf : ∀ x, (enc x).length = k0) (ts : List α) (t : Nat) (h : t < ts.length * k0) : (flatK enc k0 ts.toArray)[t]? = (ts.flatMap enc)[t]? := by
  have hd : t / k0 < ts.length := (Nat.div_lt_iff_lt_mul h0).2 h
  have hm : t % k0 < k0 := Nat.mod_lt _ h0
  have h1 := flat_get hf ts (t / k0) hd (t % k0) hm
  have e : t / k0 * k0 + t % k0 = t := Nat.div_add_mod' t k0
  rw [e] at h1
  rw [h1]
  have h2 : t < (flatK enc k0 ts.toArray).size := by rw [size_flatK]; simpa using h
  rw [Array.getElem?_eq_getElem h2]
  have h3 := get_flatK enc k0 ts.toArray t (by simpa using h)
  rw [getElem!_pos _ t h2] at h3
  rw [h3]
  have h4 : ts.toArray[t / k0]! = ts[t / k0] := by rw [getElem!_pos _ _ (by simpa using hd)]; simp
  rw [h4, List.getElem?_eq_getElem (by rw [hf]; exact hm), getElem!_pos _ _ (by rw [hf]; exact hm)]
theorem take_put (enc : α → List Value) {k0 : Nat} (h0 : 0 < k0) (hf : ∀ x, (enc x).length = k0) (cur : Array Value) (ts : List α) (h : ts.length * k0 ≤ cur.size) : (putCells id 0 (flatK enc k0 ts.toArray) cur).toList.take (ts.length * k0) = ts.flatMap enc := by
  apply List.ext_getElem?
  intro j
  by_cases hj : j < ts.length * k0
  · rw [List.getElem?_take_of_lt hj, Array.getElem?_toList, ← flat_get! enc h0 hf ts j hj]
    have h2 : j < (flatK enc k0 ts.toArray).size := by rw [size_flatK]; simpa using hj
    have hjc : j < cur.size := by omega
    have h2' : j < 0 + ts.length * k0 := by omega
    rw [Array.getElem?_eq_getElem h2]
    simp only [putCells, Array.getElem?_mapIdx, Array.getElem?_eq_getElem hjc, Option.map_some]
    rw [if_pos ⟨Nat.zero_le _, by rw [size_flatK]; simpa using hj⟩, Nat.sub_zero, getElem!_pos _ j h2]
    rfl
  · rw [List.getElem?_take_eq_none (by omega), List.getElem?_eq_none (by rw [che.flat_len hf]; omega)]
theorem sw_own (enc : α → List Value) {k0 : Nat} (h0 : 0 < k0) (hf : ∀ x, (enc x).length = k0) {w : World} {base g c n m : Nat} {e : TypeId} {os : Array Obj} {xs : List Value} (ts : List α) (hl : ts.length = n) (h : w.ownsRow base e k0 (.slice (some ⟨g, 0, none⟩) n c) n xs) :
    (sortWorldK enc k0 w g 0 m ts.toArray os).ownsRow base e k0 (.slice (some ⟨g, 0, none⟩) n c) n (ts.flatMap enc) := by
  obtain ⟨h1, h2⟩ := h
  refine ⟨by rw [che.flat_len hf, hl], ?_⟩
  rcases h2 with ⟨h2, _⟩ | ⟨g', cap, cur, hv, hg, hh, hc, hm, hs, hx⟩
  · simp at h2
  · simp only [Value.slice.injEq, Option.some.injEq, Addr.mk.injEq, and_true, true_and] at hv
    obtain ⟨rfl, rfl⟩ := hv
    have hcap : ts.length * k0 ≤ cur.size := by rw [hs, hl]; exact Nat.mul_le_mul_right k0 hc
    exact .inr ⟨g, c, _, rfl, hg, sw_row enc k0 w g m _ os hh, hc, hm, by simp [putCells, hs], by rw [← hl]; exact take_put enc h0 hf cur ts hcap⟩
theorem sw_below (enc : α → List Value) (k0 : Nat) (w : World) (g off m : Nat) (dk : Array α) (os : Array Obj) {base : Nat} (hb : base ≤ g) (hw : base ≤ w.heap.size) : Below base w (sortWorldK enc k0 w g off m dk os) := by
  have hk : Keep (fun k => k = g) w (sortWorldK enc k0 w g off m dk os) := ⟨rfl, rfl, rfl, sw_size _ _ _ _ _ _ _ _, fun k hk hn => sw_hp enc k0 w g off m dk os hk hn⟩
  exact hk.below hw (fun k hk hn => by omega)
end
theorem cmp_ok (W : World) (x y : Int) (a b : Option Addr) (m n c d : Nat) (hx : 1 ≤ x ∧ x ≤ 5) (hy : 1 ≤ y ∧ y ≤ 5) :
    Calls Tryz.prog 73 #[.agg #[.int .i64 x, .slice a m c], .agg #[.int .i64 y, .slice b n d]] W fun e w' => e = .returned (.int .i64 (x - y)) ∧ ∃ q os', w' = grow (W.drewN q) os' := by
  have hw : IntKind.i64.wrap (x - y) = x - y := IntWalk.i64_in _ (by omega)
  go_enter Tryz.func73, Tryz.ntmps73
  go_wp2_with fail
  go_ret
  exact ⟨rfl, 0, _, by rw [alloc_eq_grow, alloc_eq_grow, grow_grow]; rfl⟩

theorem flat_map' {α β γ : Type} (f : α → β) (g : β → List γ) (l : List α) : (l.map f).flatMap g = l.flatMap (fun x => g (f x)) := by
  induction l with
  | nil => rfl
  | cons x l ih => rw [List.map_cons, List.flatMap_cons, ih, List.flatMap_cons]
theorem pw_eq {l : List Pt} (h : l.Pairwise (fun p q => p.node ≠ q.node)) {x y : Pt} (hx : x ∈ l) (hy : y ∈ l) (e : x.node = y.node) : x = y := by
  obtain ⟨i, hi, rfl⟩ := List.getElem_of_mem hx
  obtain ⟨j, hj, rfl⟩ := List.getElem_of_mem hy
  rcases Nat.lt_trichotomy i j with h1 | h1 | h1
  · exact absurd e (List.pairwise_iff_getElem.1 h i j hi hj h1)
  · subst h1; rfl
  · exact absurd e.symm (List.pairwise_iff_getElem.1 h j i hj hi h1)
/-- The promises of a list, each with its right to be there. -/
abbrev Mem (l : List Pt) := {p : Pt // p ∈ l}
def mp {l : List Pt} (x : Mem l) : List Value := x.1.cells
def mc {l : List Pt} (x y : Mem l) : Int := x.1.node - y.1.node
theorem mlt {l : List Pt} (x y : Mem l) : ltOf (mc (l := l)) x y = decide (x.1.node < y.1.node) := by
  unfold ltOf mc
  rw [decide_eq_decide]
  omega
theorem mswo (l : List Pt) : SWO (ltOf (mc (l := l))) where
  irrefl x := by rw [mlt]; simp
  trans x y z h1 h2 := by
    rw [mlt, decide_eq_true_eq] at *
    omega
  ntrans x y z h1 h2 := by
    rw [mlt, decide_eq_false_iff_not] at *
    omega
theorem mle {l : List Pt} (x y : Mem l) : (!(ltOf mc) y x) = true ↔ ¬ y.1.node < x.1.node := by rw [mlt]; simp
theorem sort_ok (w : World) (base c : Nat) (a : Option Addr) (l : List Pt) (hl : l.length ≤ 5) (hrow : w.ownsRow base 115 2 (.slice a l.length c) l.length (pcells l)) (hbw : base ≤ w.heap.size)
    (hnod : ∀ p ∈ l, 1 ≤ p.node ∧ p.node ≤ 5) (hdis : l.Pairwise (fun p q => p.node ≠ q.node)) :
    Calls Tryz.prog 81 #[.slice a l.length c, .func (.func 73) #[] #[]] w fun e w' => e = .returned (.tuple #[]) ∧ ∃ r : List Pt, r.Perm l ∧ r.Pairwise (fun p q => p.node < q.node) ∧
      w'.ownsRow base 115 2 (.slice a l.length c) l.length (pcells r) ∧ Below base w w' := by
  by_cases h0 : l.length = 0
  · obtain rfl : l = [] := List.length_eq_zero_iff.1 h0
    exact (AnyF.slices_SortFunc_none (P := Tryz.prog) (ρ := chsh.sortP_ren) { chsh.sortP with } a c (.func (.func 73) #[] #[]) w).mono fun e w' ⟨he, hw⟩ => ⟨he, [], List.Perm.refl _, List.Pairwise.nil, by rw [hw]; exact hrow, by rw [hw]; exact Below.refl _ _⟩
  · obtain ⟨g, rfl⟩ := own_ptr hrow (by omega)
    have hgz := own_from hrow g rfl
    haveI : Inhabited (Mem l) := ⟨⟨l[0]'(by omega), List.getElem_mem _⟩⟩
    have eg : ∀ args w, (callFunc 73 args).run Tryz.prog w = .ok (.enter 73 args) w := enters_of Tryz.func73 (by kernel_rfl) rfl
    have hf : ∀ x : Mem l, (mp x).length = 2 := fun _ => rfl
    have hlm : l.attach.length = l.length := by simp
    have hfl : l.attach.flatMap (mp (l := l)) = pcells l := by
      have h1 : l.attach.flatMap (mp (l := l)) = (l.attach.map Subtype.val).flatMap Pt.cells := by
        rw [flat_map']
        rfl
      rw [h1, List.attach_map_subtype_val]; rfl
    have hH : HoldsK (mp (l := l)) 2 w g 0 l.attach.toArray := by
      intro j hj
      rw [size_flatK] at hj
      have hj' : j < l.attach.length * 2 := by simpa using hj
      have h1 := flat_get! (mp (l := l)) (by decide) hf l.attach j hj'
      have h2 : j < (flatK (mp (l := l)) 2 l.attach.toArray).size := by rw [size_flatK]; exact hj
      rw [hfl, Array.getElem?_eq_getElem h2] at h1
      rw [getElem!_pos _ j h2, Nat.zero_add]
      rcases hrow.2 with ⟨hz, _⟩ | ⟨g', c', cur, e', hg, hh, hc, hm, hsz, hcur⟩
      · simp at hz
      · simp only [Value.slice.injEq, Option.some.injEq, Addr.mk.injEq, and_true, true_and] at e'
        obtain ⟨rfl, rfl⟩ := e'
        refine ⟨?_, by rw [(kit.blk hh).2.1]⟩
        rw [(kit.blk hh).1]
        have h3 : (cur.toList.take (l.length * 2))[j]? = (pcells l)[j]? := by rw [hcur]
        rw [List.getElem?_take, if_pos (by omega), Array.getElem?_toList] at h3
        rw [h3, ← h1]; rfl
    have hcr : CmpLays Tryz.prog 73 #[] (mp (l := l)) 2 mc g 0 l.attach.toArray.size w := by
      intro m os dk hs x y
      exact cmp_ok _ x.1.node y.1.node _ _ _ _ _ _ (hnod _ x.2) (hnod _ y.2)
    have hT : ∀ x y : Mem l, ltOf mc x y = false → ltOf mc y x = false → x = y := by
      intro x y h1 h2
      rw [mlt, decide_eq_false_iff_not] at h1 h2
      refine Subtype.ext ?_
      have e : x.1.node = y.1.node := by omega
      exact pw_eq hdis x.2 y.2 e
    have hS := AnyQ.slices_SortFunc_total (P := Tryz.prog) (ρ := chsh.sortP_ren) chsh.sortP 2 Tryz.isAgg115 Tryz.sizeOf115 (mp (l := l)) hf (fun x v hv => by simp [mp, Pt.cells] at hv; rcases hv with rfl | rfl <;> rfl) mc (mswo l) 73 #[] g 0 c l.attach.toArray w eg hcr hH hgz.2 (by simp; omega) hT
    have hsz : l.attach.toArray.size = l.length := by simp
    rw [hsz] at hS
    refine hS.mono ?_
    rintro e w' ⟨rfl, n, os, rfl⟩
    have hpm := List.mergeSort_perm l.attach (fun x y => !(ltOf mc) y x)
    have hps := List.pairwise_mergeSort (le := fun x y : Mem l => !(ltOf mc) y x) (fun x y z h1 h2 => by
      rw [mle] at *
      omega) (fun x y => by
      rw [Bool.or_eq_true, mle, mle]
      omega) l.attach
    have hrp : ((l.attach.mergeSort fun x y => !(ltOf mc) y x).map Subtype.val).Perm l := by
      have := hpm.map Subtype.val
      rwa [List.attach_map_subtype_val] at this
    refine ⟨rfl, (l.attach.mergeSort fun x y => !(ltOf mc) y x).map Subtype.val, hrp, ?_, ?_, sw_below _ _ _ _ _ _ _ _ hgz.1 hbw⟩
    · have h1 : ((l.attach.mergeSort fun x y => !(ltOf mc) y x).map Subtype.val).Pairwise (fun p q => ¬ q.node < p.node) := by
        rw [List.pairwise_map]
        exact hps.imp fun h => (mle _ _).1 h
      have h2 : ((l.attach.mergeSort fun x y => !(ltOf mc) y x).map Subtype.val).Pairwise (fun p q => p.node ≠ q.node) := (hrp.pairwise_iff (fun {a b} h e => h e.symm)).2 hdis
      exact (h1.and h2).imp fun ⟨h3, h4⟩ => by omega
    · have := sw_own (mp (l := l)) (by decide) hf (m := n) (os := os) (l.attach.mergeSort fun x y => !(ltOf mc) y x) (n := l.length) (by simp) hrow
      rw [pcells, flat_map']
      exact this
end Go.Proofs.YtcaakiaenfkeaaaGreat.chs
