/-
  A clock in memory: the sequence of its timers, gathered into a list (slices.Values, AppendSeq, Collect).
-/
import Derived.Test.YtejjnhgiijhglaaClkT
import Derived.Shelf.Abstract
import Derived.Shelf.RegionOpen
import Derived.OwnWalkIn
import Derived.TacticsInMore
import Derived.LoopNIn
import Derived.LoopIn
import Derived.RangeFuncBox
import Derived.Maps.AppendAt
namespace Go.Proofs.Ytejjnhgiijhglaa.clkn
open Go.ChangeShapes Go.WideShapes Go.ChangeAt Go.RowKit Go.Shelf
open Go.Proofs.Ytejjnhgiijhglaa.kit Go.Proofs.Ytejjnhgiijhglaa.own Go.Proofs.Ytejjnhgiijhglaa.clk Go.Proofs.Ytejjnhgiijhglaa.heapp Go.Proofs.Ytejjnhgiijhglaa.clkq
set_option linter.unusedVariables false
set_option linter.unusedSimpArgs false
set_option maxHeartbeats 1000000
set_option maxRecDepth 100000
attribute [local go_sem] Oper.semAt_some

/-- Some blocks are as they were. -/
def Between (lo hi : Nat) (W W' : World) : Prop := W.heap.size ≤ W'.heap.size ∧ ∀ j, lo ≤ j → j < hi → W'.heap[j]? = W.heap[j]?
theorem Between.refl (lo hi : Nat) (W : World) : Between lo hi W W := ⟨Nat.le_refl _, fun _ _ _ => rfl⟩
theorem Between.trans {lo hi : Nat} {A B C : World} (h : Between lo hi A B) (k : Between lo hi B C) : Between lo hi A C := ⟨Nat.le_trans h.1 k.1, fun j h1 h2 => (k.2 j h1 h2).trans (h.2 j h1 h2)⟩
theorem Between.of_below {lo hi n : Nat} {A B : World} (h : Below n A B) (hn : hi ≤ n) : Between lo hi A B := ⟨h.size, fun j _ h2 => h.block j (by omega)⟩
theorem Between.alloc {lo hi : Nat} {A B : World} (h : Between lo hi A B) (hi2 : hi ≤ A.heap.size) (o : Obj) : Between lo hi A (B.alloc o) := h.trans (Between.of_below (below_new1 B o) (Nat.le_trans hi2 h.1))
theorem between_b {lo hi : Nat} {w : World} (h : hi ≤ w.heap.size) : ∀ (W : World) (l : Nat) (o o' : Obj), w.heap.size ≤ l → W.heap[l]? = some o → o.isCells = false → o.isWalk = false → Between lo hi W (W.putObj l o') := by
  intro W l o o' h1 _ _ _
  have hg := grownBy_putObj' W l o'
  refine ⟨hg.size, fun j _ h3 => ?_⟩
  by_cases hj : j < W.heap.size
  · exact hg.block j hj (by simp; omega)
  · have e : (W.putObj l o').heap.size = W.heap.size := by simp [World.putObj]
    rw [Array.getElem?_eq_none (by omega), Array.getElem?_eq_none (by omega)]
theorem cell_same {w w' : World} {b o : Nat} (h : w'.heap[b]? = w.heap[b]?) : w'.cell? ⟨b, o, none⟩ = w.cell? ⟨b, o, none⟩ := by simp [World.cell?, h]
theorem blk_kept {W W' : World} {row : Option Nat} {b : Nat} {cs : Array Value} {T : TypeId} (h : W.heap[b]? = some (.cells cs T (0, 0))) (hg : W.grownBy W' row) (hrow : ∀ r, row = some r → ∃ o : Obj, W.heap[r]? = some o ∧ o.isCells = false) : W'.heap[b]? = some (.cells cs T (0, 0)) :=
  (grownBy_keeps_cells hg hrow h rfl).trans h
/-- A list that a loop collects in a box. -/
def Coll (V : World) (b : Nat) (T E : TypeId) (size n : Nat) (xs : List Value) (W : World) : Prop :=
  ∃ a c, W.heap[b]? = some (.cells #[.slice a n c] T (0, 0)) ∧ W.ownsRow V.heap.size E size (.slice a n c) n xs ∧ Keep (fun k => k = b) V W
theorem own_grown {W W' : World} {base : Nat} {e : TypeId} {size n : Nat} {v : Value} {xs : List Value} {row : Option Nat} (h : W.ownsRow base e size v n xs) (hg : W.grownBy W' row) (hr : ∀ r, row = some r → ∃ o : Obj, W.heap[r]? = some o ∧ o.isCells = false) : W'.ownsRow base e size v n xs := by
  refine h.kept hg ?_
  rcases h.2 with ⟨rfl, _⟩ | ⟨g, cap, cur, rfl, _, hgb, _⟩
  · exact .inl rfl
  · refine .inr fun e' => ?_
    obtain ⟨o, ho, hc⟩ := hr g (by rw [← e']; rfl)
    rw [hgb] at ho; cases ho; cases hc
theorem Keep.grown' {S : Nat → Prop} {a W W' : World} {row : Option Nat} (h : Keep S a W) (hg : W.grownBy W' row) (hr : ∀ j, row = some j → a.heap.size ≤ j) : Keep S a W' :=
  ⟨hg.os.trans h.os, hg.tape.trans h.tape, hg.output.trans h.output, Nat.le_trans h.size hg.size, fun k hk hs => (hg.block k (Nat.lt_of_lt_of_le hk h.size) (fun e => by have := hr k e.symm; omega)).trans (h.block k hk hs)⟩
theorem coll_own {β : Type} (V : World) (b : Nat) (T E : TypeId) (size : Nat) (len : β → Nat) (g : β → List Value) : OwnFrom V.heap.size (fun s W => Coll V b T E size (len s) (g s) W) := by
  intro s W W' row hs hg hr
  obtain ⟨a, c, h1, h2, h3⟩ := hs
  exact ⟨a, c, blk_kept h1 hg (fun r e => (hr r e).2), own_grown h2 hg (fun r e => (hr r e).2), Keep.grown' h3 hg (fun j e => (hr j e).1)⟩
theorem coll_start {V : World} {b : Nat} {T E : TypeId} {size : Nat} (h : V.heap[b]? = some (.cells #[.slice none 0 0] T (0, 0))) : Coll V b T E size 0 [] V :=
  ⟨none, 0, h, World.ownsRow_nil _ _ _ _, Keep.refl _ _⟩
theorem coll_step {V W W1 : World} {b hi : Nat} {T E : TypeId} {size n c : Nat} {a : Option Addr} {xs news : List Value} {o : Obj} {v' : Value}
    (hbV : b < V.heap.size) (h1 : W.heap[b]? = some (.cells #[.slice a n c] T (0, 0))) (h2 : W.ownsRow V.heap.size E size (.slice a n c) n xs) (h3 : Keep (fun k => k = b) V W)
    (hg : (W.alloc o).grownBy W1 (Value.slice a n c).ownBlock) (hr : W1.ownsRow V.heap.size E size v' (n + 1) (xs ++ news)) (hlo : hi ≤ b) :
    ∃ a' c', v' = .slice a' (n + 1) c' ∧ W1.heap[b]? = some (.cells #[.slice a n c] T (0, 0)) ∧ KeepsOthers W (W1.setCell ⟨b, 0, none⟩ v') ∧ Between 0 hi W (W1.setCell ⟨b, 0, none⟩ v') ∧ (W1.setCell ⟨b, 0, none⟩ v').heap[b]? = some (.cells #[v'] T (0, 0)) ∧ Coll V b T E size (n + 1) (xs ++ news) (W1.setCell ⟨b, 0, none⟩ v') := by
  obtain ⟨a', c', rfl⟩ := own_shape hr
  have hrow : ∀ j, (Value.slice a n c).ownBlock = some j → V.heap.size ≤ j := by
    intro j e
    rcases h2.2 with ⟨e', _⟩ | ⟨g', cap, cur, e', hg', hh, _⟩
    · rw [e'] at e; simp [Value.ownBlock] at e
    · rw [e'] at e; simp only [Value.ownBlock, Option.some.injEq] at e; omega
  have hzb : b < (W.alloc o).heap.size := by have := h3.size; rw [size_new]; omega
  have hW1 : W1.heap[b]? = some (.cells #[.slice a n c] T (0, 0)) := (hg.block b hzb (fun e => by have := hrow b e.symm; omega)).trans (hp_new h1)
  have hke : KeepsOthers W (W1.setCell ⟨b, 0, none⟩ (.slice a' (n + 1) c')) := by
    refine ((KeepsOthers.alloc W o).trans (KeepsOthers.of_grownBy hg ?_)).trans (KeepsOthers.setCell _ _ _)
    intro j ob e ho
    rcases h2.2 with ⟨e', _⟩ | ⟨g', cap, cur, e', hg', hh, _⟩
    · rw [e'] at e; simp [Value.ownBlock] at e
    · rw [e'] at e; simp only [Value.ownBlock, Option.some.injEq] at e
      subst e
      rw [hp_new hh] at ho
      cases ho; rfl
  have hset : (W1.setCell ⟨b, 0, none⟩ (.slice a' (n + 1) c')).heap[b]? = some (.cells #[.slice a' (n + 1) c'] T (0, 0)) := hp_set hW1 0 _
  refine ⟨a', c', rfl, hW1, hke, ?_, hset, a', c', hset, own_kept hr (fun g hg' => hp_set_ne (a := ⟨b, 0, none⟩) (by have := (own_from hr g hg').1; show g ≠ b; omega)), (Keep.grown' (h3.alloc o) hg hrow).setCell (p := ⟨b, 0, none⟩) (.inr rfl) _⟩
  refine ⟨by have := hg.size; rw [size_new] at this; rw [size_set]; omega, fun j _ h6 => ?_⟩
  have hz := h3.size
  refine (hp_set_ne (a := ⟨b, 0, none⟩) (by show j ≠ b; omega)).trans ((hg.block j (by rw [size_new]; omega) (fun e => by have := hrow j e.symm; omega)).trans (hp_alloc_old (by omega)))
theorem put_keeps {X WF : World} {D : Nat} {o : Obj} (h : X = WF.putObj D o) : WF.grownBy X (some D) ∧ ∀ k, k ≠ D → k < WF.heap.size → X.heap[k]? = WF.heap[k]? := by
  rw [h]
  have := grownBy_putObj' WF D o
  exact ⟨this, fun k hk hz => this.block k hz (fun e => hk (Option.some.inj e))⟩

/-- The closure of slices.Values: it tells all, one behind the other. -/
theorem vals_it (n : Nat) (hn : 1 ≤ n) (hi B : Nat) (a : Option Addr) (c : Nat) (q : List Tm) (w : World) (hB : B < hi) (hhi : hi ≤ w.heap.size) (hl : q.length ≤ 64)
    (h1 : w.cell? ⟨B, 0, none⟩ = some (.slice a q.length c)) (h4 : ∀ k (hk : k < q.length), ∃ g, a = some ⟨g, 0, none⟩ ∧ g < hi ∧ w.cell? ⟨g, k, none⟩ = some (ptr q[k])) :
    SeqStopsK Fence.wide n Try.prog 34 #[.pointer (some ⟨B, 0, none⟩)] (fun x : Tm => #[.pointer (some ⟨x.tb, 0, none⟩)]) (Between 0 hi) (fun xs => xs = q) (fun pre => pre <+: q) q.length w := by
  intro l J Jx W hW hJ hJx hY h0
  have H4 : Hid (∀ wr, Between 0 hi w wr → ∀ k (hk : k < q.length), ∃ g, a = some ⟨g, 0, none⟩ ∧ g < wr.heap.size ∧ wr.cell? ⟨g, k, none⟩ = some (.pointer (some ⟨q[k].tb, 0, none⟩))) := by
    intro wr hb k hk
    obtain ⟨g, e, hz, r0⟩ := h4 k hk
    exact ⟨g, e, by have := hb.1; omega, (cell_same (hb.2 g (Nat.zero_le _) hz)).trans r0⟩
  have HW := Lib.hid hW
  have HY := Lib.hid hY
  have c1 := cell_step h1 hW
  have z1 := cell_lt c1
  have hs : hi ≤ W.heap.size := by have := HW.out.size; omega
  clear h1 h4 hW hY hJ hJx
  refine callsIn_of_wp Try.func34 rfl trivial ?_ rfl
  simp only [Try.ntmps34, List.size_toArray, List.length_cons, List.length_nil, Nat.reduceAdd, Nat.reduceSub, Array.replicate_succ, Array.replicate_zero, List.push_toArray, List.append_toArray, List.nil_append, List.cons_append]
  gi_wp2
  gi_loopw [7] (fun i wr => ∃ k : Nat, k ≤ q.length ∧ i = .int .i64 k ∧ J (q.take k) wr ∧ Between 0 hi W wr)
    (fun i _ => q.length - (intOf i).toNat)
  case atStart => exact ⟨0, Nat.zero_le _, rfl, h0, Between.refl _ _ _⟩
  case round =>
    obtain ⟨k, hk, rfl, hJs, hb⟩ := hrel
    have hwr : Between 0 hi w wr := (Between.of_below HW.out hhi).trans hb
    have d2 := H4.out wr hwr
    have HB := Lib.hid hb
    by_cases hlt : k < q.length
    · obtain ⟨g, rfl, hgz, r0⟩ := d2 k hlt
      clear d2 hb
      have HS : Hid (q.take (k + 1) = q.take k ++ [q[k]]) := by simp only [Hid]; rw [List.take_succ_eq_append_getElem hlt]
      obtain ⟨fn, tmps, assign, body, hy, hR⟩ := HY.out _ q[k] _ hJs (by rw [List.length_take]; omega)
      try dsimp only at hy
      have HP : Hid (q.take (k + 1) <+: q) := List.take_prefix _ _
      gi_wp2
      refine hR.mono ?_
      rintro e W3 (⟨rfl, hJ3, hk3⟩ | ⟨rfl, hJx3⟩)
      · have HK := Lib.hid hk3
        clear hk3
        gi_wp2
        go_roundw
        case rel => exact ⟨k + 1, by omega, by go_num, by rw [HS.out]; exact hJ3, HB.out.trans HK.out⟩
        case measure => simp [intOf]; omega
      · gi_wp2
        exact bodyPost_ret (results_none rfl _ _ _) rfl ⟨⟨_, rfl⟩, .inr ⟨_, HP.out, by rw [HS.out]; exact hJx3⟩⟩
    · obtain rfl : k = q.length := by omega
      rw [List.take_length] at hJs
      clear d2
      gi_wp2
      exact bodyPost_end (v := .tuple #[]) (by simp [results, Try.results34, go_sem]) rfl ⟨⟨_, rfl⟩, .inl ⟨_, rfl, hJs⟩⟩

theorem append_ok (B hi : Nat) (a : Option Addr) (c : Nat) (q : List Tm) (w : World) (hB : B < hi) (hhi : hi ≤ w.heap.size) (hl : q.length ≤ 64)
    (h1 : w.cell? ⟨B, 0, none⟩ = some (.slice a q.length c)) (h4 : ∀ k (hk : k < q.length), ∃ g, a = some ⟨g, 0, none⟩ ∧ g < hi ∧ w.cell? ⟨g, k, none⟩ = some (ptr q[k])) :
    Calls Try.prog 36 #[.slice none 0 0, .func (.func 34) #[] #[.pointer (some ⟨B, 0, none⟩)]] w fun e w' => ∃ v, e = .returned v ∧ w'.ownsRow w.heap.size 52 1 v q.length (q.map ptr) ∧ Below w.heap.size w w' := by
  refine (callsIn_wide (n := 5)).1 ?_
  refine callsIn_of_wp_marks Try.func36 rfl trivial ?_ rfl
  simp only [Try.ntmps36, List.size_toArray, List.length_cons, List.length_nil, Nat.reduceAdd, Nat.reduceSub, Array.replicate_succ, Array.replicate_zero, List.push_toArray, List.append_toArray, List.nil_append, List.cons_append]
  obtain ⟨w0, hw0⟩ : ∃ w0 : World, w0 = w.alloc (.cells #[.slice none 0 0] 47) := ⟨_, rfl⟩
  have ha0 : w0.heap[w.heap.size]? = some (.cells #[.slice none 0 0] 47 (0, 0)) := by rw [hw0]; exact hp_alloc_new w _
  have hB0 : Below w.heap.size w w0 := by rw [hw0]; exact below_new1 w _
  have hsz0 : w0.heap.size = w.heap.size + 1 := by rw [hw0, size_new]
  have hk0 : ∀ j, j < w.heap.size → w0.heap[j]? = w.heap[j]? := fun j hj => hB0.block j hj
  have g1 : w0.cell? ⟨B, 0, none⟩ = some (.slice a q.length c) := (cell_same (hk0 B (by omega))).trans h1
  have g4 : ∀ k (hk : k < q.length), ∃ g, a = some ⟨g, 0, none⟩ ∧ g < hi ∧ w0.cell? ⟨g, k, none⟩ = some (ptr q[k]) := fun k hk => by
    obtain ⟨g, e, h5, h6⟩ := h4 k hk
    exact ⟨g, e, h5, (cell_same (hk0 g (by omega))).trans h6⟩
  have HIT := Lib.hid (fun n hn => vals_it n hn hi B a c q w0 hB (by omega) hl g1 g4)
  clear h1 h4 g1 g4
  gi_wp2
  rw [← hw0]
  clear hw0
  refine wpIn_rangeFunc_ownF rfl (by omega) (gf := 34) (lb := #[.pointer (some ⟨B, 0, none⟩)]) rfl trivial (enters_of Try.func34 (by kernel_rfl) rfl)
    (HIT.out 4 (by omega)) Between.trans (between_b (by omega)) (Below.refl _ _) (fun _ => rfl)
    (fun pre W => Coll w0 w.heap.size 47 52 1 pre.length (pre.map ptr) W) (fun _ _ _ => False) (coll_own w0 w.heap.size 47 52 1 _ _) (fun _ _ _ _ _ hs _ _ => hs) (coll_start ha0)
    (fun x => { tmps := #[.slice none 0 0, .func (.func 34) #[] #[.pointer (some ⟨B, 0, none⟩)], .pointer (some ⟨w.heap.size, 0, none⟩), undef, .slice none 0 0, .pointer (some ⟨x.tb, 0, none⟩), .func (.func 34) #[] #[.pointer (some ⟨B, 0, none⟩)], .pointer (some ⟨x.tb, 0, none⟩), undef, undef, undef, undef, undef], defers := [] }) ?assign1 ?body1 ?done1 ?stop1
  case assign1 =>
    intro l x W K hK
    gi_wp2
    simpa using hK
  case stop1 => intro D c pre W hD hSp h; exact h.elim
  case body1 =>
    rintro l pre x W ⟨a, c, hb, hr, hK⟩ hlt
    have hlt2 : pre.length < 64 := by omega
    obtain ⟨q0, q1, q2⟩ := blk1 hb
    obtain ⟨j0, hj, hy0, hy1, hy2⟩ := info_parts infoTm
    have hKs := hK.size
    have HB := Lib.hid hb
    have HR := Lib.hid hr
    have HK := Lib.hid hK
    clear hb hr hK
    gi_wp2_with (gi_at_builtin; refine wpListIn_append_own _ rfl _ _ 47 rfl w0.heap.size 52 j0 (.pointer none) 1 8 Try.underlying47 hj hy0 hy1 hy2 rfl (by decide) _ _ _ rfl (HR.out.alloc _) ⟨W.heap.size, 0, none⟩ 1 1 [.pointer (some ⟨x.tb, 0, none⟩)] rfl rfl (cell_one_new _ _ _) (by simp [Value.oneCell']) (by unfold maxLen; omega) (by omega) (by rw [size_new]; omega) ?_; intro v' W1 hown' hgrow _; obtain ⟨a5, c5, rfl, hW1, hke, hbt, hset, hco⟩ := coll_step (hi := hi) (by omega) HB.out HR.out HK.out hgrow hown' (by omega); obtain ⟨e0, e1, e2⟩ := blk1 hW1; have hsc := (blk1 hset).1; have HW1 := Lib.hid hset; have HKE := Lib.hid hke; have HBT := Lib.hid hbt; have HCO := Lib.hid hco; clear hown' hgrow hW1 hke hbt hset hco)
    exact ⟨HKE.out, HBT.out, by dsimp only; rw [List.length_append, List.map_append]; exact HCO.out⟩
  case done1 =>
    rintro D xs W hD rfl ⟨a1, c1, hg1, ho1, hk1⟩ hK1
    have hBW : Below w.heap.size w W := hB0.trans (hk1.below (Nat.le_of_lt (by omega)) (fun k hk => by omega))
    obtain ⟨q0, q1, q2⟩ := blk1 hg1
    gi_wp2
    refine ⟨by simp, .inl ⟨_, _, rfl, run_takeDeferred hK1, ?_⟩⟩
    obtain ⟨X, hX⟩ : ∃ X, X = W.putObj D (.deferred none) := ⟨_, rfl⟩
    have p3 := put_keeps hX
    have y0 := ownsRow_putObj ho1 (.deferred none) hK1 rfl
    rw [← hX] at y0 ⊢
    have hB3 : Below w.heap.size w X := hBW.grown p3.1 hBW.size (fun j hj => by simp at hj; omega)
    exact ⟨.slice a1 xs.length c1, by simp [results, Try.results36, go_sem, Result.andThen], _, rfl, own_mono y0 (by omega), hB3⟩

theorem values_ok (a : Option Addr) (n c : Nat) (w : World) : Calls Try.prog 27 #[.slice a n c] w fun e w' => e = .returned (.func (.func 34) #[] #[.pointer (some ⟨w.heap.size, 0, none⟩)]) ∧ w' = w.alloc (.cells #[.slice a n c] 48) := by
  go_enter Try.func27, Try.ntmps27
  go_wp2_with fail
  exact bodyPost_ret (v := .func (.func 34) #[] #[.pointer (some ⟨w.heap.size, 0, none⟩)]) (by simp [results, Try.results27, go_sem]) rfl ⟨rfl, rfl⟩

theorem collect_ok (B hi : Nat) (a : Option Addr) (c : Nat) (q : List Tm) (w : World) (hB : B < hi) (hhi : hi ≤ w.heap.size) (hl : q.length ≤ 64)
    (h1 : w.cell? ⟨B, 0, none⟩ = some (.slice a q.length c)) (h4 : ∀ k (hk : k < q.length), ∃ g, a = some ⟨g, 0, none⟩ ∧ g < hi ∧ w.cell? ⟨g, k, none⟩ = some (ptr q[k])) :
    Calls Try.prog 32 #[.func (.func 34) #[] #[.pointer (some ⟨B, 0, none⟩)]] w fun e w' => ∃ v, e = .returned v ∧ w'.ownsRow w.heap.size 52 1 v q.length (q.map ptr) ∧ Below w.heap.size w w' := by
  have HA := Lib.hid (append_ok B hi a c q w hB hhi hl h1 h4)
  clear h1 h4
  go_enter Try.func32, Try.ntmps32
  go_wp2_with fail
  refine HA.out.mono ?_; rintro e w1 ⟨v, rfl, ho, hb⟩
  have HO := Lib.hid ho
  have HB := Lib.hid hb
  clear ho hb
  go_wp2_with fail
  go_ret
  exact ⟨v, rfl, HO.out, HB.out⟩
end Go.Proofs.Ytejjnhgiijhglaa.clkn
