/-
  A nil log of ints: Get, Len; what told tells.
-/
import Derived.Test.YtpnkohjppbgiaaaSlotN
namespace Go.Proofs.Ytpnkohjppbgiaaa.slotn
open Go.ChangeShapes Go.WideShapes Go.ChangeAt Go.RowKit Go.Shelf
open Go.Proofs.Ytpnkohjppbgiaaa.kit
set_option linter.unusedVariables false
set_option linter.unusedSimpArgs false
set_option maxHeartbeats 1000000
set_option maxRecDepth 100000
attribute [local go_sem] Oper.semAt_some

theorem nil_get (i : Int) (w : World) : Calls Try.prog 13 #[.pointer none, .int .i64 i] w fun e w' => e = .returned (.tuple #[.int .i64 0, .bool false]) ∧ Below w.heap.size w w' := by
  go_enter Try.func13, Try.ntmps13
  go_wp2_with fail
  exact bodyPost_ret (v := .tuple #[.int .i64 0, .bool false]) (by simp [results, Try.results13, go_sem]) rfl ⟨rfl, by first | exact Below.refl _ _ | exact below_new1 _ _⟩

theorem nil_len (w : World) : Calls Try.prog 12 #[.pointer none] w fun e w' => e = .returned (.int .i64 0) ∧ Below w.heap.size w w' := by
  refine (callsIn_wide (n := 5)).1 ?_
  refine callsIn_of_wp_marks Try.func12 rfl trivial ?_ rfl
  simp only [Try.ntmps12, List.size_toArray, List.length_cons, List.length_nil, Nat.reduceAdd, Nat.reduceSub, Array.replicate_succ, Array.replicate_zero, List.push_toArray, List.append_toArray, List.nil_append, List.cons_append]
  gi_wp2
  refine ⟨trivial, ?_⟩
  refine (callsIn_wide.2 (all_nil _)).mono ?_
  rintro e w4 ⟨B, B', rfl, hcB, hzB, hb4⟩
  have hb0 : w4.heap[w.heap.size]? = some (.cells #[.int .i64 0] 3 (0, 0)) := hp_step (hp_alloc_new w _) hb4
  have hBw : Below w.heap.size w w4 := below_step (below_new1 w _) hb4
  have hs4 : w.heap.size < w4.heap.size := (blk1 hb0).2.2
  clear hb4
  gi_wp2
  refine wpIn_rangeFunc_ownF rfl (by omega) (gf := 57) (lb := #[.pointer (some ⟨B, 0, none⟩), .pointer (some ⟨B', 0, none⟩)]) rfl trivial (enters_of Try.func57 (by kernel_rfl) rfl)
    (all_it 4 B (.pointer (some ⟨B', 0, none⟩)) (fun x => x.elim) w4 hcB hzB) (fun _ _ => trivial) (fun _ _ _ _ _ _ _ _ => trivial) (Below.refl _ _) (fun x => x.elim)
    (fun _ W => Below w4.heap.size w4 W) (fun _ _ _ => False) (ownFrom_below (Nat.le_refl _) (Nat.le_refl _)) (fun _ _ _ _ _ hs _ _ => hs) (Below.refl _ _) (fun x => x.elim) ?assign ?body ?done ?stop
  case assign => intro l x; exact x.elim
  case body => intro l pre x; exact x.elim
  case stop => intro D c pre W hD hSp; exact hSp.elim
  case done =>
    intro D xs W hD _ hI hK
    have hr0 := hp_step hb0 hI
    obtain ⟨c0, f0, z0⟩ := blk1 hr0
    have hBW : Below w.heap.size w W := below_step hBw hI
    gi_wp2
    refine ⟨by simp, .inl ⟨_, _, rfl, run_takeDeferred hK, ?_⟩⟩
    have hgr := grownBy_putObj' W D (.deferred none)
    exact ⟨.int .i64 0, by simp [results, Try.results12, go_sem, Result.andThen], rfl, hBW.grown hgr hBW.size (fun j hj => by simp at hj; omega)⟩
theorem fn_all (x : Array Value) (w : World) : (binOp .eql 50 (.func (.func 57) #[] x) .nilFunc).run Try.prog w = .ok (.bool false) w := by kernel_rfl
theorem fn_run (x : Array Value) (w : World) : (binOp .eql 50 (.func (.func 71) #[] x) .nilFunc).run Try.prog w = .ok (.bool false) w := by kernel_rfl
theorem fn_holes (x : Array Value) (w : World) : (binOp .eql 53 (.func (.func 58) #[] x) .nilFunc).run Try.prog w = .ok (.bool false) w := by kernel_rfl

theorem set4 {W : World} {a b c d : Nat} {x0 x1 x2 x3 v0 v1 v2 v3 : Value} {T0 T1 T2 T3 : TypeId} (h0 : W.heap[a]? = some (.cells #[x0] T0 (0, 0))) (h1 : W.heap[b]? = some (.cells #[x1] T1 (0, 0))) (h2 : W.heap[c]? = some (.cells #[x2] T2 (0, 0))) (h3 : W.heap[d]? = some (.cells #[x3] T3 (0, 0)))
    (e1 : a ≠ b) (e2 : a ≠ c) (e3 : a ≠ d) (e4 : b ≠ c) (e5 : b ≠ d) (e6 : c ≠ d) :
    (((((W.setCell ⟨a, 0, none⟩ v0).setCell ⟨b, 0, none⟩ v1).setCell ⟨c, 0, none⟩ v2).setCell ⟨d, 0, none⟩ v3).drew).heap[a]? = some (.cells #[v0] T0 (0, 0)) ∧
    (((((W.setCell ⟨a, 0, none⟩ v0).setCell ⟨b, 0, none⟩ v1).setCell ⟨c, 0, none⟩ v2).setCell ⟨d, 0, none⟩ v3).drew).heap[b]? = some (.cells #[v1] T1 (0, 0)) ∧
    (((((W.setCell ⟨a, 0, none⟩ v0).setCell ⟨b, 0, none⟩ v1).setCell ⟨c, 0, none⟩ v2).setCell ⟨d, 0, none⟩ v3).drew).heap[c]? = some (.cells #[v2] T2 (0, 0)) ∧
    (((((W.setCell ⟨a, 0, none⟩ v0).setCell ⟨b, 0, none⟩ v1).setCell ⟨c, 0, none⟩ v2).setCell ⟨d, 0, none⟩ v3).drew).heap[d]? = some (.cells #[v3] T3 (0, 0)) ∧
    ∀ k, k ≠ a → k ≠ b → k ≠ c → k ≠ d → (((((W.setCell ⟨a, 0, none⟩ v0).setCell ⟨b, 0, none⟩ v1).setCell ⟨c, 0, none⟩ v2).setCell ⟨d, 0, none⟩ v3).drew).heap[k]? = W.heap[k]? := by
  refine ⟨?_, ?_, ?_, ?_, fun k k1 k2 k3 k4 => ?_⟩
  · exact (hp_set_ne e3).trans ((hp_set_ne e2).trans ((hp_set_ne e1).trans (hp_set h0 0 v0)))
  · exact (hp_set_ne e5).trans ((hp_set_ne e4).trans (hp_set ((hp_set_ne (Ne.symm e1)).trans h1) 0 v1))
  · exact (hp_set_ne e6).trans (hp_set ((hp_set_ne (Ne.symm e4)).trans ((hp_set_ne (Ne.symm e2)).trans h2)) 0 v2)
  · exact hp_set ((hp_set_ne (Ne.symm e6)).trans ((hp_set_ne (Ne.symm e5)).trans ((hp_set_ne (Ne.symm e3)).trans h3))) 0 v3
  · exact (hp_set_ne k4).trans ((hp_set_ne k3).trans ((hp_set_ne k2).trans (hp_set_ne k1)))
theorem put_keeps {X WF : World} {D : Nat} {o : Obj} (h : X = WF.putObj D o) : WF.grownBy X (some D) ∧ ∀ k, k ≠ D → k < WF.heap.size → X.heap[k]? = WF.heap[k]? := by
  rw [h]
  have := grownBy_putObj' WF D o
  exact ⟨this, fun k hk hz => this.block k hz (fun e => hk (Option.some.inj e))⟩

theorem told_nil (w : World) : Calls Try.prog 35 #[.pointer none] w fun e w' => e = .returned (.tuple #[.slice none 0 0, .slice none 0 0, .slice none 0 0, .bool true]) ∧ Below w.heap.size w w' := by
  refine (callsIn_wide (n := 5)).1 ?_
  refine callsIn_of_wp_marks Try.func35 rfl trivial ?_ rfl
  simp only [Try.ntmps35, List.size_toArray, List.length_cons, List.length_nil, Nat.reduceAdd, Nat.reduceSub, Array.replicate_succ, Array.replicate_zero, List.push_toArray, List.append_toArray, List.nil_append, List.cons_append]
  have hq1 := fn_all
  have hq2 := fn_run
  have hq3 := fn_holes
  obtain ⟨w0, hw0⟩ : ∃ w0 : World, w0 = ((((w.alloc (.cells #[.slice none 0 0] 55)).alloc (.cells #[.slice none 0 0] 55)).alloc (.cells #[.slice none 0 0] 56)).alloc (.cells #[.bool false] 4)) := ⟨_, rfl⟩
  have hn3 := new3 w (.cells #[.slice none 0 0] 55) (.cells #[.slice none 0 0] 55) (.cells #[.slice none 0 0] 56)
  have ha0 : w0.heap[w.heap.size]? = some (.cells #[.slice none 0 0] 55 (0, 0)) := by rw [hw0]; exact hp_new hn3.1
  have ha1 : w0.heap[w.heap.size + 1]? = some (.cells #[.slice none 0 0] 55 (0, 0)) := by rw [hw0]; exact hp_new hn3.2.1
  have ha2 : w0.heap[w.heap.size + 1 + 1]? = some (.cells #[.slice none 0 0] 56 (0, 0)) := by rw [hw0]; exact hp_new hn3.2.2.1
  have ha3 : w0.heap[w.heap.size + 1 + 1 + 1]? = some (.cells #[.bool false] 4 (0, 0)) := by
    rw [hw0]
    have := hp_alloc_new (((w.alloc (.cells #[.slice none 0 0] 55)).alloc (.cells #[.slice none 0 0] 55)).alloc (.cells #[.slice none 0 0] 56)) (.cells #[.bool false] 4)
    rw [hn3.2.2.2] at this
    exact this
  have hBa : Below w.heap.size w w0 := by rw [hw0]; exact (below_new3 w _ _ _).alloc (by rw [hn3.2.2.2]; omega) _
  gi_wp2
  rw [← hw0]
  clear hw0 hn3
  refine ⟨trivial, ?_⟩
  refine (callsIn_wide.2 (all_nil _)).mono ?_
  rintro e w1 ⟨A, A', rfl, hcA, hzA, hb1⟩
  gi_wp2
  refine ⟨trivial, ?_⟩
  refine (callsIn_wide.2 (run_nil _)).mono ?_
  rintro e w2 ⟨R, R', rfl, hcR, hzR, hb2⟩
  gi_wp2
  refine ⟨trivial, ?_⟩
  refine (callsIn_wide.2 (holes_nil _)).mono ?_
  rintro e w4 ⟨O, O', rfl, hcO, hzO, hb3⟩
  have hb14 : Below w1.heap.size w1 w4 := below_step hb2 hb3
  have hb04 : Below w0.heap.size w0 w4 := below_step hb1 hb14
  have hBw : Below w.heap.size w w4 := below_step hBa hb04
  have hcA4 := cell_step hcA hb14
  have hcR4 := cell_step hcR hb3
  have hzA4 : A < w4.heap.size := cell_lt hcA4
  have hzR4 : R < w4.heap.size := cell_lt hcR4
  have hr0 := hp_step ha0 hb04
  have hr1 := hp_step ha1 hb04
  have hr2 := hp_step ha2 hb04
  have hr3 := hp_step ha3 hb04
  have hs4 := (blk1 hr3).2.2
  clear hb1 hb2 hb3 hb14 hb04 ha0 ha1 ha2 ha3 hcA hcR hBa hzA hzR
  gi_wp2
  refine wpIn_rangeFunc_ownF rfl (by omega) (gf := 57) (lb := #[.pointer (some ⟨A, 0, none⟩), .pointer (some ⟨A', 0, none⟩)]) rfl trivial (enters_of Try.func57 (by kernel_rfl) rfl)
    (all_it 4 A (.pointer (some ⟨A', 0, none⟩)) (fun x => x.elim) w4 hcA4 hzA4) (fun _ _ => trivial) (fun _ _ _ _ _ _ _ _ => trivial) (Below.refl _ _) (fun x => x.elim)
    (fun _ W => Below w4.heap.size w4 W) (fun _ _ _ => False) (ownFrom_below (Nat.le_refl _) (Nat.le_refl _)) (fun _ _ _ _ _ hs _ _ => hs) (Below.refl _ _) (fun x => x.elim) ?assign4 ?body4 ?done4 ?stop4
  case assign4 => intro l x; exact x.elim
  case body4 => intro l pre x; exact x.elim
  case stop4 => intro D c pre W hD hSp; exact hSp.elim
  case done4 =>
    intro D1 xs1 W1 hD1 _ hI1 hK1
    have hcR5 := cell_step hcR4 hI1
    have hcO5 := cell_step hcO hI1
    have hzR5 : R < W1.heap.size := cell_lt hcR5
    have hs1 := hI1.size
    have hzD1 : D1 < W1.heap.size := (Array.getElem?_eq_some_iff.1 hK1).1
    gi_wp2
    refine wpIn_rangeFunc_ownF rfl (by omega) (gf := 71) (lb := #[.pointer (some ⟨R, 0, none⟩), .pointer (some ⟨R', 0, none⟩)]) rfl trivial (enters_of Try.func71 (by kernel_rfl) rfl)
      (run_it 4 R (.pointer (some ⟨R', 0, none⟩)) (fun x => x.elim) W1 hcR5 hzR5) (fun _ _ => trivial) (fun _ _ _ _ _ _ _ _ => trivial) (Below.refl _ _) (fun x => x.elim)
      (fun _ W => Below W1.heap.size W1 W) (fun _ _ _ => False) (ownFrom_below (Nat.le_refl _) (Nat.le_refl _)) (fun _ _ _ _ _ hs _ _ => hs) (Below.refl _ _) (fun x => x.elim) ?assign5 ?body5 ?done5 ?stop5
    case assign5 => intro l x; exact x.elim
    case body5 => intro l pre x; exact x.elim
    case stop5 => intro D c pre W hD hSp; exact hSp.elim
    case done5 =>
      intro D2 xs2 W2 hD2 _ hI2 hK2
      have hcO6 := cell_step hcO5 hI2
      have hzO6 : O < W2.heap.size := cell_lt hcO6
      have hs2 := hI2.size
      have hK1' := hp_step hK1 hI2
      have hzD2 : D2 < W2.heap.size := (Array.getElem?_eq_some_iff.1 hK2).1
      gi_wp2
      refine wpIn_rangeFunc_ownF rfl (by omega) (gf := 58) (lb := #[.pointer (some ⟨O, 0, none⟩), .pointer (some ⟨O', 0, none⟩)]) rfl trivial (enters_of Try.func58 (by kernel_rfl) rfl)
        (holes_it 4 O (.pointer (some ⟨O', 0, none⟩)) (fun x => x.elim) W2 hcO6 hzO6) (fun _ _ => trivial) (fun _ _ _ _ _ _ _ _ => trivial) (Below.refl _ _) (fun x => x.elim)
        (fun _ W => Below W2.heap.size W2 W) (fun _ _ _ => False) (ownFrom_below (Nat.le_refl _) (Nat.le_refl _)) (fun _ _ _ _ _ hs _ _ => hs) (Below.refl _ _) (fun x => x.elim) ?assign6 ?body6 ?done6 ?stop6
      case assign6 => intro l x; exact x.elim
      case body6 => intro l pre x; exact x.elim
      case stop6 => intro D c pre W hD hSp; exact hSp.elim
      case done6 =>
        intro D3 xs3 W hD3 _ hI3 hK3
        have hK2' := hp_step hK2 hI3
        have hK1'' := hp_step hK1' hI3
        have hI13 : Below w4.heap.size w4 W := below_step (below_step hI1 hI2) hI3
        have hBW : Below w.heap.size w W := below_step hBw hI13
        have g0 := hp_step hr0 hI13
        have g1 := hp_step hr1 hI13
        have g2 := hp_step hr2 hI13
        have g3 := hp_step hr3 hI13
        obtain ⟨c0, f0, z0⟩ := blk1 g0
        obtain ⟨c1, f1, z1⟩ := blk1 g1
        obtain ⟨c2, f2, z2⟩ := blk1 g2
        obtain ⟨c3, f3, z3⟩ := blk1 g3
        gi_wp2
        refine Code.wpIn_mono NoPanic.imp ?_
        gi_region_with (first | fail)
        all_goals
          refine NoPanic.normal ?_
          gi_wp2
          obtain ⟨WF, hWF⟩ : ∃ WF : World, WF = ((((W.setCell ⟨w.heap.size, 0, none⟩ (.slice none 0 0)).setCell ⟨w.heap.size + 1, 0, none⟩ (.slice none 0 0)).setCell ⟨w.heap.size + 1 + 1, 0, none⟩ (.slice none 0 0)).setCell ⟨w.heap.size + 1 + 1 + 1, 0, none⟩ (.bool true)).drew := ⟨_, rfl⟩
          rw [← hWF]
          have hF := set4 (v0 := .slice none 0 0) (v1 := .slice none 0 0) (v2 := .slice none 0 0) (v3 := .bool true) g0 g1 g2 g3 (by omega) (by omega) (by omega) (by omega) (by omega) (by omega)
          rw [← hWF] at hF
          obtain ⟨k0, k1, k2, k3, ko⟩ := hF
          have hBF : Below w.heap.size w WF := by
            rw [hWF]
            exact below_drewN ((((hBW.setCell (p := ⟨w.heap.size, 0, none⟩) (Nat.le_refl _) _).setCell (p := ⟨w.heap.size + 1, 0, none⟩) (by simp) _).setCell (p := ⟨w.heap.size + 1 + 1, 0, none⟩) (by simp; omega) _).setCell (p := ⟨w.heap.size + 1 + 1 + 1, 0, none⟩) (by simp; omega) _) 1
          have q3 := (ko D3 (by omega) (by omega) (by omega) (by omega)).trans hK3
          have q2 := (ko D2 (by omega) (by omega) (by omega) (by omega)).trans hK2'
          have q1 := (ko D1 (by omega) (by omega) (by omega) (by omega)).trans hK1''
          clear hWF ko
          refine ⟨by simp, .inl ⟨_, _, rfl, run_takeDeferred q3, ?_⟩⟩
          obtain ⟨X3, hX3⟩ : ∃ X, X = WF.putObj D3 (.deferred none) := ⟨_, rfl⟩
          have p3 := put_keeps hX3
          rw [← hX3]
          have z0 := (Array.getElem?_eq_some_iff.1 k0).1
          have z1 := (Array.getElem?_eq_some_iff.1 k1).1
          have z2 := (Array.getElem?_eq_some_iff.1 k2).1
          have z3 := (Array.getElem?_eq_some_iff.1 k3).1
          have q2' := (p3.2 D2 (by omega) (Array.getElem?_eq_some_iff.1 q2).1).trans q2
          have q1' := (p3.2 D1 (by omega) (Array.getElem?_eq_some_iff.1 q1).1).trans q1
          have l0 := (p3.2 _ (by omega) z0).trans k0
          have l1 := (p3.2 _ (by omega) z1).trans k1
          have l2 := (p3.2 _ (by omega) z2).trans k2
          have l3 := (p3.2 _ (by omega) z3).trans k3
          have hB3 : Below w.heap.size w X3 := hBF.grown p3.1 hBF.size (fun j hj => by simp at hj; omega)
          clear k0 k1 k2 k3 q1 q2 q3 p3 hX3 z0 z1 z2 z3
          refine ⟨by simp, .inl ⟨_, _, rfl, run_takeDeferred q2', ?_⟩⟩
          obtain ⟨X2, hX2⟩ : ∃ X, X = X3.putObj D2 (.deferred none) := ⟨_, rfl⟩
          have p2 := put_keeps hX2
          rw [← hX2]
          have q1'' := (p2.2 D1 (by omega) (Array.getElem?_eq_some_iff.1 q1').1).trans q1'
          have m0 := (p2.2 _ (by omega) (Array.getElem?_eq_some_iff.1 l0).1).trans l0
          have m1 := (p2.2 _ (by omega) (Array.getElem?_eq_some_iff.1 l1).1).trans l1
          have m2 := (p2.2 _ (by omega) (Array.getElem?_eq_some_iff.1 l2).1).trans l2
          have m3 := (p2.2 _ (by omega) (Array.getElem?_eq_some_iff.1 l3).1).trans l3
          have hB2 : Below w.heap.size w X2 := hB3.grown p2.1 hB3.size (fun j hj => by simp at hj; omega)
          clear l0 l1 l2 l3 q1' q2' p2 hX2
          refine ⟨by simp, .inl ⟨_, _, rfl, run_takeDeferred q1'', ?_⟩⟩
          obtain ⟨X1, hX1⟩ : ∃ X, X = X2.putObj D1 (.deferred none) := ⟨_, rfl⟩
          have p1 := put_keeps hX1
          rw [← hX1]
          have n0 := (p1.2 _ (by omega) (Array.getElem?_eq_some_iff.1 m0).1).trans m0
          have n1 := (p1.2 _ (by omega) (Array.getElem?_eq_some_iff.1 m1).1).trans m1
          have n2 := (p1.2 _ (by omega) (Array.getElem?_eq_some_iff.1 m2).1).trans m2
          have n3 := (p1.2 _ (by omega) (Array.getElem?_eq_some_iff.1 m3).1).trans m3
          have hB1 : Below w.heap.size w X1 := hB2.grown p1.1 hB2.size (fun j hj => by simp at hj; omega)
          have r0 := (blk1 n0).1
          have r1 := (blk1 n1).1
          have r2 := (blk1 n2).1
          have r3 := (blk1 n3).1
          clear n0 n1 n2 n3 m0 m1 m2 m3 p1 hX1 q1'' c0 c1 c2 c3 hq1 hq2 hq3
          exact ⟨.tuple #[.slice none 0 0, .slice none 0 0, .slice none 0 0, .bool true], by simp [results, Try.results35, go_sem, r0, r1, r2, r3, Result.andThen], rfl, hB1⟩
end Go.Proofs.Ytpnkohjppbgiaaa.slotn
