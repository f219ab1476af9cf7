/-
  A log of int: how many places are filled (printed by wip/mklog.py).
-/
import Derived.Test.YtpnkohjppbgiaaaLogRI
namespace Go.Proofs.Ytpnkohjppbgiaaa.logi
open Go.ChangeShapes Go.WideShapes Go.ChangeAt Go.RowKit Go.Shelf
open Go.Proofs.Ytpnkohjppbgiaaa.kit
set_option linter.unusedVariables false
set_option linter.unusedSimpArgs false
set_option maxHeartbeats 1000000
set_option maxRecDepth 100000
attribute [local go_sem] Oper.semAt_some

theorem blk_kept {W W' : World} {row : Option Nat} {b : Nat} {cs : Array Value} {T : TypeId} (h : W.heap[b]? = some (.cells cs T (0, 0))) (hg : W.grownBy W' row) (hrow : ∀ r, row = some r → ∃ o : Obj, W.heap[r]? = some o ∧ o.isCells = false) : W'.heap[b]? = some (.cells cs T (0, 0)) :=
  (grownBy_keeps_cells hg hrow h rfl).trans h
theorem allF_len (i : Int) (cs : List (El × Bool)) : (allF i cs).length ≤ cs.length := by
  induction cs generalizing i with
  | nil => simp [allF]
  | cons c cs ih =>
    have := ih (i + 1)
    simp only [allF]
    split <;> simp <;> omega

theorem len_ok (w : World) (base b : Nat) (f m : Int) (cs : List (El × Bool)) (h : LogAt w base b f m cs) (hF : Fit f m cs) :
    Calls Try.prog 12 #[.pointer (some ⟨b, 0, none⟩)] w fun e w' => e = .returned (.int .i64 ((allF f cs).length : Nat)) ∧ Below w.heap.size w w' := by
  have hA : Hid (∀ W, Below w.heap.size w W → Calls Try.prog 33 #[.pointer (some ⟨b, 0, none⟩)] W fun e w' => ∃ B B', e = .returned (.func (.func 57) #[] #[.pointer (some ⟨B, 0, none⟩), .pointer (some ⟨B', 0, none⟩)]) ∧ ItAt w' W.heap.size w'.heap.size B B' f cs ∧ Below W.heap.size W w') := fun W hW => all_ok W base b f m cs (h.below hW) hF
  have hlen := hF.len; have hf1 := hF.f1; have hf2 := hF.f2; have hm2 := hF.m2
  have hll : (allF f cs).length ≤ 1024 := by have := allF_len f cs; omega
  refine (callsIn_wide (n := 5)).1 ?_
  refine callsIn_of_wp_marks Try.func12 rfl trivial ?_ rfl
  simp only [Try.ntmps12, List.size_toArray, List.length_cons, List.length_nil, Nat.reduceAdd, Nat.reduceSub, Array.replicate_succ, Array.replicate_zero, List.push_toArray, List.append_toArray, List.nil_append, List.cons_append]
  gi_wp2
  refine ⟨trivial, ?_⟩
  refine (callsIn_wide.2 (hA.out _ (below_new1 _ _))).mono ?_
  rintro e w4 ⟨B, B', rfl, hit, hb4⟩
  have hb0 : w4.heap[w.heap.size]? = some (.cells #[.int .i64 0] 3 (0, 0)) := hp_step (hp_alloc_new w _) hb4
  have hBw : Below w.heap.size w w4 := below_step (below_new1 w _) hb4
  have hs4 : w.heap.size < w4.heap.size := (blk1 hb0).2.2
  clear hb4
  have hlo : w.heap.size + 1 ≤ (w.alloc (.cells #[.int .i64 0] 3)).heap.size := by rw [size_new]; exact Nat.le_refl _
  gi_wp2
  refine wpIn_rangeFunc_ownF rfl (by omega) (gf := 57) (lb := #[.pointer (some ⟨B, 0, none⟩), .pointer (some ⟨B', 0, none⟩)]) rfl trivial (enters_of Try.func57 (by kernel_rfl) rfl)
    (all_it 4 (by omega) _ _ B B' f cs w4 hit (Nat.le_refl _) (by omega) hf2 (by omega)) Between.trans (between_b (Nat.le_refl _)) (Below.refl _ _) (fun _ => rfl)
    (fun pre W => W.heap[w.heap.size]? = some (.cells #[.int .i64 (pre.length : Nat)] 3 (0, 0)) ∧ Below w.heap.size w W)
    (fun _ _ _ => False)
    (OwnFrom.and (Own.from (I := fun (pre : List (Int × El)) W => W.heap[w.heap.size]? = some (.cells #[.int .i64 (pre.length : Nat)] 3 (0, 0))) (fun s A B row hs hg hr => blk_kept hs hg hr) _) (ownFrom_below (Nat.le_refl _) (by omega)))
    (fun _ _ _ _ _ hs _ _ => hs)
    ⟨hb0, hBw⟩
    (fun x => { tmps := #[.pointer (some ⟨b, 0, none⟩), undef, .int .i64 0, .pointer (some ⟨w.heap.size, 0, none⟩), .pointer (some ⟨b, 0, none⟩), .func (.func 57) #[] #[.pointer (some ⟨B, 0, none⟩), .pointer (some ⟨B', 0, none⟩)], .int .i64 x.1, (.int .i64 (x.2)), undef, undef, undef], defers := [] }) ?assign ?body ?done ?stop
  case assign =>
    intro l x W K hK
    gi_wp2
    simpa using hK
  case body =>
    rintro l pre x W ⟨hc, hB⟩ hlt
    obtain ⟨q0, q1, q2⟩ := blk1 hc
    have hw : IntKind.i64.wrap ((pre.length : Int) + 1) = ((pre ++ [x]).length : Nat) := by rw [IntWalk.i64_in _ (by omega)]; simp
    have HC := Lib.hid hc
    have HB := Lib.hid hB
    clear hc hB
    gi_wp2
    exact ⟨KeepsOthers.setCell _ _ _, (Between.refl _ _ _).setCell ⟨w.heap.size, 0, none⟩ (.inl (by rw [size_new]; exact Nat.lt_succ_self _)) _, by rw [List.length_append, List.length_singleton, Int.natCast_add]; exact hp_set HC.out 0 _, HB.out.setCell (p := ⟨w.heap.size, 0, none⟩) (Nat.le_refl _) _⟩
  case done =>
    rintro D ys W hD rfl ⟨hc, hB⟩ hK
    obtain ⟨q0, q1, q2⟩ := blk1 hc
    gi_wp2
    refine ⟨by simp, .inl ⟨_, _, rfl, run_takeDeferred hK, ?_⟩⟩
    exact ⟨_, results_tmp rfl _ _ _, rfl, hB.trans (belowK_b (w := w) (Nat.le_refl _) W D _ _ (by omega) hK rfl rfl)⟩
  case stop =>
    rintro D c pre W _ _ h _
    exact h.elim
end Go.Proofs.Ytpnkohjppbgiaaa.logi
