/-
  A range over a function (XNetL, XClkN's lists that a loop collects; no program) that tells things of which something is known at the very moment (a packet's body just copied), and whose loop is never left early.
-/
import Derived.Test.YtodoncmielfbeaaOwn
import Derived.RangeFuncNested
import Derived.RangeFuncBound
import Derived.RangeFuncCalls
import Derived.RangeFuncLeaves
import Derived.RangeFuncFrom
import Derived.Shelf.Abstract
import Derived.Shelf.RegionOpen
import Derived.OwnWalkIn
import Derived.TacticsInMore
import Derived.LoopNIn
import Derived.LoopIn
import Derived.RangeFuncBox
import Derived.Maps.AppendAt
namespace Go.Proofs.Ytodoncmielfbeaa.tel
open Go.ChangeShapes Go.WideShapes Go.ChangeAt Go.RowKit Go.Shelf
open Go.Proofs.Ytodoncmielfbeaa.kit Go.Proofs.Ytodoncmielfbeaa.own
set_option linter.unusedVariables false
set_option linter.unusedSimpArgs false
set_option maxHeartbeats 1000000
set_option maxRecDepth 100000

/-- What a sequence promises: it goes through all, telling each while 'Good' holds of it, as long as the loop goes on and keeps what 'Kp' says. -/
def Tells {α : Type} (F : Fence) (n : Nat) (P : Program) (g : Nat) (lb : Array Value) (encs : α → Array Value) (Kp : World → World → Prop) (Good : List α → α → World → Prop) (S : List α → Prop) (w : World) : Prop :=
  ∀ (l : Nat) (J : List α → World → Prop) (W : World), Below w.heap.size w W → AbidesFrom W.heap.size J →
    (∀ pre x W1, J pre W1 → Good pre x W1 → YieldAt F (n - 1) P l (encs x) W1 fun e W' => e = .returned (.bool true) ∧ J (pre ++ [x]) W' ∧ Kp W1 W') →
    J [] W → CallsIn F n P g (#[.func (.yield l) #[] #[]] ++ lb) W fun e W' => (∃ v, e = .returned v) ∧ ∃ xs, S xs ∧ J xs W'
def goesOn {α : Type} (Kp : World → World → Prop) (I : List α → World → Prop) (xs : List α) (W : World) : Exit → Act → World → Prop
  | .normal, _, W' => KeepsOthers W W' ∧ Kp W W' ∧ I xs W'
  | _, _, _ => False

theorem range_all {α : Type} {F : Fence} {n : Nat} {P : Program} {g : Operand} {ps : Array Tmp} {assign body : Code} {Q : Exit → Act → World → Prop} {a : Act} {w : World}
    (hro : F.round = none) (h1 : 1 ≤ n) {gf : Nat} {lb : Array Value} (hg : a.eval g = .func (.func gf) #[] lb) (hFg : F.fn gf) (eg : ∀ args w, (callFunc gf args).run P w = .ok (.enter gf args) w)
    {encs : α → Array Value} {Kp : World → World → Prop} {Good : List α → α → World → Prop} {S : List α → Prop} {w0 : World} (hseq : Tells F (n - 1) P gf lb encs Kp Good S w0)
    (hKt : ∀ {A B C : World}, Kp A B → Kp B C → Kp A C) (hKb : ∀ (W : World) (l : Nat) (o : Obj), w.heap.size ≤ l → Kp W (W.putObj l o)) (hKa : ∀ (W : World) (o : Obj), w.heap.size ≤ W.heap.size → Kp W (W.alloc o))
    (hGb : ∀ (pre : List α) (x : α) (W : World) (l : Nat) (o o' : Obj), w.heap.size ≤ l → W.heap[l]? = some o → o.isCells = false → Good pre x W → Good pre x (W.putObj l o')) (hGa : ∀ (pre : List α) (x : α) (W : World) (o : Obj), Good pre x W → Good pre x (W.alloc o))
    (hb0 : Below w0.heap.size w0 w) (hps : ∀ x, (encs x).size = ps.size)
    (I : List α → World → Prop) (hI : OwnFrom w.heap.size I) (h0 : I [] w) (a₁ : α → Nat → Act) (gA : α → Obj)
    (hassign : ∀ (l : Nat) (x : α) (W : World) (K : Act → World → Prop), K (a₁ x W.heap.size) (W.alloc (gA x)) →
      assign.wpIn (F.inRound l) (n - 1 - 1) P (Exit.then K (fun _ _ _ => False)) { tmps := (ps.zip (encs x)).foldl (fun t (p, v) => t.setIfInBounds p v) a.tmps, defers := [] } W)
    (hbody : ∀ (l : Nat) (pre : List α) (x : α) (A : Nat) (W : World), w.heap.size ≤ A → W.heap[A]? = some (gA x) → I pre W → Good pre x W → body.wpIn (F.inRound l) (n - 1 - 1) P (goesOn Kp I (pre ++ [x]) W) (a₁ x A) W)
    (hdone : ∀ (D : Nat) (xs : List α) (W : World), w.heap.size ≤ D → S xs → I xs W → W.heap[D]? = some (.deferred (some [])) → Q .normal { a with defers := { target := .collected D, args := #[] } :: a.defers } W) :
    (Code.rangeFunc g ps assign body).wpIn F n P Q a w := by
  refine wpIn_rangeFunc (fun fn hfn => ?_)
  rw [hro]
  -- the loop's own object, and the two blocks that the loop lays
  let lp : LoopState → Option Code → Loop := fun st pe => { state := st, pending := pe, fn, tmps := a.tmps, params := ps, assign, body, defers := w.heap.size }
  obtain ⟨V, hV⟩ : ∃ V, V = (w.alloc (.deferred (some []))).alloc (.loop (lp .ready none)) := ⟨_, rfl⟩
  have hVl : V.heap[w.heap.size + 1]? = some (.loop (lp .ready none)) := by
    have := hp_alloc_new (w.alloc (.deferred (some []))) (.loop (lp .ready none))
    rw [size_new] at this
    rw [hV]; exact this
  have hVd : V.heap[w.heap.size]? = some (.deferred (some [])) := by rw [hV]; exact hp_new (hp_alloc_new w _)
  have hVs : V.heap.size = w.heap.size + 1 + 1 := by rw [hV, size_new, size_new]
  have hVI : I [] V := by rw [hV]; exact hI.alloc _ (hI.alloc _ h0)
  have hVb : Below w0.heap.size w0 V := by rw [hV]; exact below_step (below_step hb0 (below_new1 _ _)) (below_new1 _ _)
  -- what holds of the loop's two blocks between two rounds
  let Bk : World → Prop := fun W => W.heap[w.heap.size + 1]? = some (.loop (lp .ready none)) ∧ W.heap[w.heap.size]? = some (.deferred (some []))
  refine ⟨w.heap.size + 1, [{ target := .collected w.heap.size, args := #[] }], V, { target := .fn (.func gf) lb, args := #[.func (.yield (w.heap.size + 1)) #[] #[]] }, V, gf,
    #[.func (.yield (w.heap.size + 1)) #[] #[]] ++ lb, V, by rw [hV]; exact run_enterLoop_outer _ _ _ _ _, by simp only [resolve, hg]; simp [go_sem],
    fun f' hf' => by simp [Target.leads] at hf'; subst hf'; exact hFg, by simp [invoke, go_sem, eg], fun _ => h1, ?_⟩
  refine (hseq (w.heap.size + 1) (fun pre W => I pre W ∧ Bk W) V hVb ?_ ?_ ⟨hVI, hVl, hVd⟩).mono ?_
  · -- growth keeps all this
    intro s A B row ⟨hs1, hs2, hs3⟩ hgr hr
    have hc : ∀ r, row = some r → ∃ o : Obj, A.heap[r]? = some o ∧ o.isCells = false := fun r e => by
      obtain ⟨_, o, ho, hw⟩ := hr r e
      exact ⟨o, ho, Obj.not_cells_of_walk hw⟩
    refine ⟨hI s A B row hs1 hgr (fun r e => ?_), ?_, ?_⟩
    · obtain ⟨o, ho, hw⟩ := hc r e
      exact ⟨by have := (hr r e).1; omega, o, ho, hw⟩
    · refine (hgr.block _ (Array.getElem?_eq_some_iff.1 hs2).1 (fun e => ?_)).trans hs2
      have := (hr _ e.symm).1
      omega
    · refine (hgr.block _ (Array.getElem?_eq_some_iff.1 hs3).1 (fun e => ?_)).trans hs3
      have := (hr _ e.symm).1
      omega
  · -- one round
    rintro pre x W ⟨hi, hl, hd⟩ hgood
    have hlt := (Array.getElem?_eq_some_iff.1 hl).1
    obtain ⟨V2, hV2⟩ : ∃ V2, V2 = W.alloc (gA x) := ⟨_, rfl⟩
    have hl2 : V2.heap[w.heap.size + 1]? = some (.loop (lp .ready none)) := by rw [hV2]; exact hp_new hl
    have hd2 : V2.heap[w.heap.size]? = some (.deferred (some [])) := by rw [hV2]; exact hp_new hd
    have hx2 : V2.heap[W.heap.size]? = some (gA x) := by rw [hV2]; exact hp_alloc_new _ _
    have hlt2 := (Array.getElem?_eq_some_iff.1 hl2).1
    refine ⟨fn, _, assign, body, run_yield (P := P) (args := encs x) hl (hps x), roundIn_of_wpIn hfn (hassign _ x W _ ?_)⟩
    rw [← hV2]
    refine ⟨_, run_beginRound hl2 rfl, ?_⟩
    obtain ⟨U, hU⟩ : ∃ U, U = V2.putObj (w.heap.size + 1) (.loop { lp .ready none with state := .busy }) := ⟨_, rfl⟩
    have hUl : U.heap[w.heap.size + 1]? = some (.loop { lp .ready none with state := .busy }) := by rw [hU]; exact World.putObj_heap_same hlt2
    have hUd : U.heap[w.heap.size]? = some (.deferred (some [])) := by rw [hU]; exact (World.putObj_heap_other (by omega)).trans hd2
    have hUx : U.heap[W.heap.size]? = some (gA x) := by rw [hU]; exact (World.putObj_heap_other (by omega)).trans hx2
    have hUi : I pre U := by rw [hU, hV2]; exact hI.putObj _ (hI.alloc _ hi) (by omega) (hV2 ▸ hl2) rfl
    have hUk : Kp W U := by rw [hU, hV2]; exact hKt (hKa _ _ (by omega)) (hKb _ _ _ (by omega))
    have hUg : Good pre x U := by rw [hU, hV2]; exact hGb pre x _ _ _ _ (by omega) (hV2 ▸ hl2) rfl (hGa _ _ _ _ hgood)
    rw [← hU]
    refine wpIn_mono (hbody _ pre x _ U (by omega) hUx hUi hUg) ?_
    rintro e a3 W3 hp
    cases e with
    | normal =>
      obtain ⟨ho3, hk3, hi3⟩ := hp
      have hl3 := ho3.same _ _ hUl rfl
      have hz3 := (Array.getElem?_eq_some_iff.1 hl3).1
      refine ⟨_, _, run_endRound (P := P) none hl3, rfl, ⟨hI.putObj _ hi3 (by omega) hl3 rfl, World.putObj_heap_same hz3, (World.putObj_heap_other (by omega)).trans (ho3.same _ _ hUd rfl)⟩, hKt (hKt hUk hk3) (hKb _ _ _ (by omega))⟩
    | ret => exact hp.elim
    | exit id => exact hp.elim
    | goto t => exact hp.elim
    | panic ch => exact hp.elim
    | outgrown => exact hp.elim
  · -- behind all
    rintro e W2 ⟨⟨v, rfl⟩, xs, hS, hi, hl, hd⟩
    exact ⟨none, _, run_endLoop (P := P) hl (by simp [lp]), hdone _ xs _ (Nat.le_refl _) hS (hI.putObj _ hi (by omega) hl rfl) ((World.putObj_heap_other (by omega)).trans hd)⟩

/-- Some blocks are as they were. -/
def Between (lo hi : Nat) (W W' : World) : Prop := W.heap.size ≤ W'.heap.size ∧ ∀ j, lo ≤ j → j < hi → W'.heap[j]? = W.heap[j]?
theorem Between.refl (lo hi : Nat) (W : World) : Between lo hi W W := ⟨Nat.le_refl _, fun _ _ _ => rfl⟩
theorem Between.trans {lo hi : Nat} {A B C : World} (h : Between lo hi A B) (k : Between lo hi B C) : Between lo hi A C := ⟨Nat.le_trans h.1 k.1, fun j h1 h2 => (k.2 j h1 h2).trans (h.2 j h1 h2)⟩
theorem Between.of_below {lo hi n : Nat} {A B : World} (h : Below n A B) (hn : hi ≤ n) : Between lo hi A B := ⟨h.size, fun j _ h2 => h.block j (by omega)⟩
theorem Between.alloc {lo hi : Nat} {A B : World} (h : Between lo hi A B) (hi2 : hi ≤ A.heap.size) (o : Obj) : Between lo hi A (B.alloc o) := h.trans (Between.of_below (below_new1 B o) (Nat.le_trans hi2 h.1))
theorem between_b {lo hi : Nat} {w : World} (h : hi ≤ w.heap.size) : ∀ (W : World) (l : Nat) (o o' : Obj), w.heap.size ≤ l → W.heap[l]? = some o → o.isCells = false → o.isWalk = false → Between lo hi W (W.putObj l o') := by
  intro W l o o' h1 _ _ _
  have hg := grownBy_putObj' W l o'
  refine ⟨hg.size, fun j _ h3 => ?_⟩
  by_cases hj : j < W.heap.size
  · exact hg.block j hj (by simp; omega)
  · have e : (W.putObj l o').heap.size = W.heap.size := by simp [World.putObj]
    rw [Array.getElem?_eq_none (by omega), Array.getElem?_eq_none (by omega)]
theorem cell_same {w w' : World} {b o : Nat} (h : w'.heap[b]? = w.heap[b]?) : w'.cell? ⟨b, o, none⟩ = w.cell? ⟨b, o, none⟩ := by simp [World.cell?, h]
theorem blk_kept {W W' : World} {row : Option Nat} {b : Nat} {cs : Array Value} {T : TypeId} (h : W.heap[b]? = some (.cells cs T (0, 0))) (hg : W.grownBy W' row) (hrow : ∀ r, row = some r → ∃ o : Obj, W.heap[r]? = some o ∧ o.isCells = false) : W'.heap[b]? = some (.cells cs T (0, 0)) :=
  (grownBy_keeps_cells hg hrow h rfl).trans h
/-- A list that a loop collects in a box. -/
def Coll (V : World) (b : Nat) (T E : TypeId) (size n : Nat) (xs : List Value) (W : World) : Prop :=
  ∃ a c, W.heap[b]? = some (.cells #[.slice a n c] T (0, 0)) ∧ W.ownsRow V.heap.size E size (.slice a n c) n xs ∧ Keep (fun k => k = b) V W
theorem own_grown {W W' : World} {base : Nat} {e : TypeId} {size n : Nat} {v : Value} {xs : List Value} {row : Option Nat} (h : W.ownsRow base e size v n xs) (hg : W.grownBy W' row) (hr : ∀ r, row = some r → ∃ o : Obj, W.heap[r]? = some o ∧ o.isCells = false) : W'.ownsRow base e size v n xs := by
  refine h.kept hg ?_
  rcases h.2 with ⟨rfl, _⟩ | ⟨g, cap, cur, rfl, _, hgb, _⟩
  · exact .inl rfl
  · refine .inr fun e' => ?_
    obtain ⟨o, ho, hc⟩ := hr g (by rw [← e']; rfl)
    rw [hgb] at ho; cases ho; cases hc
theorem Keep.grown' {S : Nat → Prop} {a W W' : World} {row : Option Nat} (h : Keep S a W) (hg : W.grownBy W' row) (hr : ∀ j, row = some j → a.heap.size ≤ j) : Keep S a W' :=
  ⟨hg.os.trans h.os, hg.tape.trans h.tape, hg.output.trans h.output, Nat.le_trans h.size hg.size, fun k hk hs => (hg.block k (Nat.lt_of_lt_of_le hk h.size) (fun e => by have := hr k e.symm; omega)).trans (h.block k hk hs)⟩
theorem coll_own {β : Type} (V : World) (b : Nat) (T E : TypeId) (size : Nat) (len : β → Nat) (g : β → List Value) : OwnFrom V.heap.size (fun s W => Coll V b T E size (len s) (g s) W) := by
  intro s W W' row hs hg hr
  obtain ⟨a, c, h1, h2, h3⟩ := hs
  exact ⟨a, c, blk_kept h1 hg (fun r e => (hr r e).2), own_grown h2 hg (fun r e => (hr r e).2), Keep.grown' h3 hg (fun j e => (hr j e).1)⟩
theorem coll_start {V : World} {b : Nat} {T E : TypeId} {size : Nat} (h : V.heap[b]? = some (.cells #[.slice none 0 0] T (0, 0))) : Coll V b T E size 0 [] V :=
  ⟨none, 0, h, World.ownsRow_nil _ _ _ _, Keep.refl _ _⟩
theorem coll_step {V W W1 : World} {b hi : Nat} {T E : TypeId} {size n c : Nat} {a : Option Addr} {xs news : List Value} {o : Obj} {v' : Value}
    (hbV : b < V.heap.size) (h1 : W.heap[b]? = some (.cells #[.slice a n c] T (0, 0))) (h2 : W.ownsRow V.heap.size E size (.slice a n c) n xs) (h3 : Keep (fun k => k = b) V W)
    (hg : (W.alloc o).grownBy W1 (Value.slice a n c).ownBlock) (hr : W1.ownsRow V.heap.size E size v' (n + 1) (xs ++ news)) (hlo : hi ≤ b) :
    ∃ a' c', v' = .slice a' (n + 1) c' ∧ W1.heap[b]? = some (.cells #[.slice a n c] T (0, 0)) ∧ KeepsOthers W (W1.setCell ⟨b, 0, none⟩ v') ∧ Between 0 hi W (W1.setCell ⟨b, 0, none⟩ v') ∧ (W1.setCell ⟨b, 0, none⟩ v').heap[b]? = some (.cells #[v'] T (0, 0)) ∧ Coll V b T E size (n + 1) (xs ++ news) (W1.setCell ⟨b, 0, none⟩ v') := by
  obtain ⟨a', c', rfl⟩ := own_shape hr
  have hrow : ∀ j, (Value.slice a n c).ownBlock = some j → V.heap.size ≤ j := by
    intro j e
    rcases h2.2 with ⟨e', _⟩ | ⟨g', cap, cur, e', hg', hh, _⟩
    · rw [e'] at e; simp [Value.ownBlock] at e
    · rw [e'] at e; simp only [Value.ownBlock, Option.some.injEq] at e; omega
  have hzb : b < (W.alloc o).heap.size := by have := h3.size; rw [size_new]; omega
  have hW1 : W1.heap[b]? = some (.cells #[.slice a n c] T (0, 0)) := (hg.block b hzb (fun e => by have := hrow b e.symm; omega)).trans (hp_new h1)
  have hke : KeepsOthers W (W1.setCell ⟨b, 0, none⟩ (.slice a' (n + 1) c')) := by
    refine ((KeepsOthers.alloc W o).trans (KeepsOthers.of_grownBy hg ?_)).trans (KeepsOthers.setCell _ _ _)
    intro j ob e ho
    rcases h2.2 with ⟨e', _⟩ | ⟨g', cap, cur, e', hg', hh, _⟩
    · rw [e'] at e; simp [Value.ownBlock] at e
    · rw [e'] at e; simp only [Value.ownBlock, Option.some.injEq] at e
      subst e
      rw [hp_new hh] at ho
      cases ho; rfl
  have hset : (W1.setCell ⟨b, 0, none⟩ (.slice a' (n + 1) c')).heap[b]? = some (.cells #[.slice a' (n + 1) c'] T (0, 0)) := hp_set hW1 0 _
  refine ⟨a', c', rfl, hW1, hke, ?_, hset, a', c', hset, own_kept hr (fun g hg' => hp_set_ne (a := ⟨b, 0, none⟩) (by have := (own_from hr g hg').1; show g ≠ b; omega)), (Keep.grown' (h3.alloc o) hg hrow).setCell (p := ⟨b, 0, none⟩) (.inr rfl) _⟩
  refine ⟨by have := hg.size; rw [size_new] at this; rw [size_set]; omega, fun j _ h6 => ?_⟩
  have hz := h3.size
  refine (hp_set_ne (a := ⟨b, 0, none⟩) (by show j ≠ b; omega)).trans ((hg.block j (by rw [size_new]; omega) (fun e => by have := hrow j e.symm; omega)).trans (hp_alloc_old (by omega)))
theorem put_keeps {X WF : World} {D : Nat} {o : Obj} (h : X = WF.putObj D o) : WF.grownBy X (some D) ∧ ∀ k, k ≠ D → k < WF.heap.size → X.heap[k]? = WF.heap[k]? := by
  rw [h]
  have := grownBy_putObj' WF D o
  exact ⟨this, fun k hk hz => this.block k hz (fun e => hk (Option.some.inj e))⟩

end Go.Proofs.Ytodoncmielfbeaa.tel
