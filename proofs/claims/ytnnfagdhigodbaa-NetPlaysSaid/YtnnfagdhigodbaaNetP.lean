/-
  The document's net in memory: Take, Double, Send.
-/
import Derived.Test.YtnnfagdhigodbaaNetM
namespace Go.Proofs.Ytnnfagdhigodbaa.netp
open Go.ChangeShapes Go.WideShapes Go.ChangeAt Go.RowKit Go.Shelf
open Go.Proofs.Ytnnfagdhigodbaa.kit Go.Proofs.Ytnnfagdhigodbaa.byt Go.Proofs.Ytnnfagdhigodbaa.netc Go.Proofs.Ytnnfagdhigodbaa.netg Go.Proofs.Ytnnfagdhigodbaa.nets Go.Proofs.Ytnnfagdhigodbaa.nett Go.Proofs.Ytnnfagdhigodbaa.netd Go.Proofs.Ytnnfagdhigodbaa.nete Go.Proofs.Ytnnfagdhigodbaa.netf Go.Proofs.Ytnnfagdhigodbaa.netq Go.Proofs.Ytnnfagdhigodbaa.netk Go.Proofs.Ytnnfagdhigodbaa.netm
set_option linter.unusedVariables false
set_option linter.unusedSimpArgs false
set_option maxHeartbeats 1000000
set_option maxRecDepth 100000

theorem rtake_out (w : World) (base b : Nat) (nodes i : Int) (rs : List Pkt) (Cs : Cuts) (h : RefAt w base b nodes rs Cs) (hi : ¬ (0 ≤ i ∧ i < rs.length)) : Calls Try.prog 31 #[.pointer (some ⟨b, 0, none⟩), .int .i64 i] w fun e w' => e = .returned (.tuple #[.agg #[.int .i64 0, .int .i64 0, .slice none 0 0], .int .i64 60]) ∧ Below w.heap.size w w' := by
  obtain ⟨h1, ⟨a, c, a2, c2, h2, h3, h4⟩, h6⟩ := h
  obtain ⟨d0, d1, d2, f0, f1, f2, hz⟩ := blk3 h2
  have hs1 : Below w.heap.size w (w.alloc (.cells #[.int .i64 0, .int .i64 0, .slice none 0 0] 48)) := below_new1 _ _
  obtain ⟨e0, e1, e2, _⟩ := blk3 (hp_alloc_new w (.cells #[.int .i64 0, .int .i64 0, .slice none 0 0] 48))
  have HS := Lib.hid hs1
  clear h2 h3 h4 h6 hs1
  by_cases hneg : i < 0
  · have t1 : decide (i < 0) = true := decide_eq_true hneg
    clear hi
    go_enter Try.func31, Try.ntmps31
    go_wp2_with fail
    exact bodyPost_ret (v := .tuple #[.agg #[.int .i64 0, .int .i64 0, .slice none 0 0], .int .i64 60]) (by simp [results, Try.results31, go_sem, e0, e1, e2, Result.andThen]) rfl ⟨rfl, HS.out⟩
  · have t1 : decide (i < 0) = false := decide_eq_false hneg
    have t2 : decide ((rs.length : Int) ≤ i) = true := decide_eq_true (by omega)
    have t4 : (rs.length : Int) ≤ i := by omega
    clear hi
    go_enter Try.func31, Try.ntmps31
    go_wp2_with fail
    exact bodyPost_ret (v := .tuple #[.agg #[.int .i64 0, .int .i64 0, .slice none 0 0], .int .i64 60]) (by simp [results, Try.results31, go_sem, e0, e1, e2, Result.andThen]) rfl ⟨rfl, HS.out⟩

theorem row_take {w : World} {base g c : Nat} {rs : List Pkt} (h : w.ownsRow base 48 3 (.slice (some ⟨g, 0, none⟩) rs.length c) rs.length (pkcells rs)) {k : Nat} (hk : k < rs.length) : Lie w (some ⟨g, 0, none⟩) (pkcells (rs.take k)) := by
  have hl := pkcells_len (rs.take k)
  rw [List.length_take, Nat.min_eq_left (by omega)] at hl
  refine .inr ⟨g, 0, rfl, (own_from h g rfl).2, fun i hi => ?_⟩
  rw [Nat.zero_add, World.ownsRow.cellAt h i (by omega), pkcells_split hk, List.getElem?_append_left hi]
theorem row_drop {w : World} {base g c : Nat} {rs : List Pkt} (h : w.ownsRow base 48 3 (.slice (some ⟨g, 0, none⟩) rs.length c) rs.length (pkcells rs)) {k : Nat} (hk : k < rs.length) : ∃ A : Addr, (if c = k + 1 then some (⟨g, 0, none⟩ : Addr) else some ⟨g, (k + 1) * 3, none⟩) = some A ∧ Lie w (some A) (pkcells (rs.drop (k + 1))) := by
  have hl1 := pkcells_len (rs.take k)
  rw [List.length_take, Nat.min_eq_left (by omega)] at hl1
  have hl2 := pkcells_len (rs.drop (k + 1))
  rw [List.length_drop] at hl2
  have hnc : rs.length ≤ c := by
    rcases h.2 with ⟨hz0, _⟩ | ⟨g', cap, cur, e', hgb, hh, hc', hm', _⟩
    · simp at hz0
    · simp only [Value.slice.injEq] at e'
      omega
  by_cases hc : c = k + 1
  · refine ⟨⟨g, 0, none⟩, by simp [hc], .inl (List.length_eq_zero_iff.1 (by omega))⟩
  · refine ⟨⟨g, (k + 1) * 3, none⟩, by simp [hc], .inr ⟨g, (k + 1) * 3, rfl, (own_from h g rfl).2, fun i hi => ?_⟩⟩
    have hl3 : (rs[k].cells).length = 3 := rfl
    rw [World.ownsRow.cellAt h _ (by omega), pkcells_split hk, List.getElem?_append_right (by omega), List.getElem?_append_right (by omega)]
    congr 1
    omega

theorem rtake_in (w : World) (base b k : Nat) (nodes : Int) (rs : List Pkt) (Cs : Cuts) (h : RefAt w base b nodes rs Cs) (hbw : base ≤ w.heap.size) (hk : k < rs.length) (hF : rs.length ≤ 256) : Calls Try.prog 31 #[.pointer (some ⟨b, 0, none⟩), .int .i64 k] w fun e w' => e = .returned (.tuple #[rs[k].val, .int .i64 0]) ∧ RefAt w' base b nodes (rs.eraseIdx k) Cs ∧ Body w' base rs[k] ∧ Below base w w' ∧ Moved w w' b := by
  obtain ⟨j0, hj, hy0, hy1, hy2⟩ := info_parts infoPkt
  have hR := h
  obtain ⟨h1, ⟨a, c, a2, c2, h2, h3, h4⟩, h6⟩ := h
  obtain ⟨g, rfl⟩ := own_ptr h3 (by omega)
  obtain ⟨d0, d1, d2, f0, f1, f2, hz⟩ := blk3 h2
  obtain ⟨q0, q1, q2⟩ := pk_cells h3 hk
  have hgs : g < w.heap.size := (own_from h3 g rfl).2
  obtain ⟨wA, hwA⟩ : ∃ wA : World, wA = (w.alloc (.cells #[.int .i64 0, .int .i64 0, .slice none 0 0] 48)).alloc (.cells #[.int .i64 rs[k].f, .int .i64 rs[k].t, .slice rs[k].a rs[k].l.length rs[k].c] 48) := ⟨_, rfl⟩
  have hn2 := new2 w (.cells #[.int .i64 0, .int .i64 0, .slice none 0 0] 48) (.cells #[.int .i64 rs[k].f, .int .i64 rs[k].t, .slice rs[k].a rs[k].l.length rs[k].c] 48)
  have hbA : Below w.heap.size w wA := by rw [hwA]; exact below_new2 _ _ _
  rw [← hwA] at hn2
  obtain ⟨hA0, hA1, hsA⟩ := hn2
  have h3A := own_below h3 hbA
  have hL1 := row_take h3A hk
  obtain ⟨A, hA, hL2⟩ := row_drop h3A hk
  have hgb : b ≠ g := fun e => own_ne h3 h2 (by decide) g rfl e.symm
  have hnc : rs.length ≤ c := by
    rcases h3.2 with ⟨hz0, _⟩ | ⟨g', cap, cur, e', hgb, hh, hc', hm', _⟩
    · simp at hz0
    · simp only [Value.slice.injEq] at e'
      omega
  have hl1 : (pkcells (rs.take k)).length = k * 3 := by rw [pkcells_len, List.length_take, Nat.min_eq_left (by omega)]
  have hl2 : (pkcells (rs.drop (k + 1))).length = (rs.length - (k + 1)) * 3 := by rw [pkcells_len, List.length_drop]
  have hlE : (rs.eraseIdx k).length = rs.length - 1 := List.length_eraseIdx_of_lt hk
  have hF' : ∀ (w2 : World) (v2 : Value), Below wA.heap.size wA w2 → w2.ownsRow wA.heap.size 48 3 v2 (k + (rs.length - (k + 1))) (pkcells (rs.take k) ++ pkcells (rs.drop (k + 1))) →
      (∃ a9 c9, v2 = .slice a9 (rs.length - 1) c9) ∧ w2.heap[b]? = w.heap[b]? ∧ w2.heap[w.heap.size]? = some (.cells #[.int .i64 0, .int .i64 0, .slice none 0 0] 48 (0, 0)) ∧ w2.heap[w.heap.size + 1]? = some (.cells #[.int .i64 rs[k].f, .int .i64 rs[k].t, .slice rs[k].a rs[k].l.length rs[k].c] 48 (0, 0)) ∧
      ∃ WF : World, WF = ((((w2.setCell ⟨b, 1, none⟩ v2).setCell ⟨w.heap.size, 0, none⟩ (.int .i64 rs[k].f)).setCell ⟨w.heap.size, 1, none⟩ (.int .i64 rs[k].t)).setCell ⟨w.heap.size, 2, none⟩ (.slice rs[k].a rs[k].l.length rs[k].c)) ∧
        WF.heap[w.heap.size]? = some (.cells #[.int .i64 rs[k].f, .int .i64 rs[k].t, .slice rs[k].a rs[k].l.length rs[k].c] 48 (0, 0)) ∧ RefAt WF base b nodes (rs.eraseIdx k) Cs ∧ (∀ p ∈ rs, Body WF base p) ∧ Below base w WF ∧ Moved w WF b := by
    intro w2 v2 hb2 hown
    obtain ⟨a9, c9, rfl⟩ := own_shape hown
    have hn9 : k + (rs.length - (k + 1)) = rs.length - 1 := by omega
    rw [hn9] at hown ⊢
    rw [← pkcells_erase, ← hlE] at hown
    have r0 := hp_step hA0 hb2
    have r1 := hp_step hA1 hb2
    have rb := (hp_step (hp_step h2 hbA) hb2)
    have hs2 := hb2.size
    have hbs : b ≠ w.heap.size := by omega
    have hf0 : ((((w2.setCell ⟨b, 1, none⟩ (.slice a9 (rs.length - 1) c9)).setCell ⟨w.heap.size, 0, none⟩ (.int .i64 rs[k].f)).setCell ⟨w.heap.size, 1, none⟩ (.int .i64 rs[k].t)).setCell ⟨w.heap.size, 2, none⟩ (.slice rs[k].a rs[k].l.length rs[k].c)).heap[w.heap.size]? = some (.cells #[.int .i64 rs[k].f, .int .i64 rs[k].t, .slice rs[k].a rs[k].l.length rs[k].c] 48 (0, 0)) :=
      hp_set (hp_set (hp_set ((hp_set_ne hbs.symm).trans r0) 0 _) 1 _) 2 _
    have hfk : ∀ k', k' ≠ w.heap.size → ((((w2.setCell ⟨b, 1, none⟩ (.slice a9 (rs.length - 1) c9)).setCell ⟨w.heap.size, 0, none⟩ (.int .i64 rs[k].f)).setCell ⟨w.heap.size, 1, none⟩ (.int .i64 rs[k].t)).setCell ⟨w.heap.size, 2, none⟩ (.slice rs[k].a rs[k].l.length rs[k].c)).heap[k']? = (w2.setCell ⟨b, 1, none⟩ (.slice a9 (rs.length - 1) c9)).heap[k']? :=
      fun k' hn => (hp_set_ne (a := ⟨w.heap.size, 2, none⟩) hn).trans ((hp_set_ne (a := ⟨w.heap.size, 1, none⟩) hn).trans (hp_set_ne (a := ⟨w.heap.size, 0, none⟩) hn))
    have hold : ∀ k', k' < w.heap.size → k' ≠ b → ((((w2.setCell ⟨b, 1, none⟩ (.slice a9 (rs.length - 1) c9)).setCell ⟨w.heap.size, 0, none⟩ (.int .i64 rs[k].f)).setCell ⟨w.heap.size, 1, none⟩ (.int .i64 rs[k].t)).setCell ⟨w.heap.size, 2, none⟩ (.slice rs[k].a rs[k].l.length rs[k].c)).heap[k']? = w.heap[k']? :=
      fun k' hk' hn => (hfk k' (by omega)).trans ((hp_set_ne hn).trans ((hb2.block k' (by omega)).trans (hbA.block k' hk')))
    have hbody : ∀ p ∈ rs, Body ((((w2.setCell ⟨b, 1, none⟩ (.slice a9 (rs.length - 1) c9)).setCell ⟨w.heap.size, 0, none⟩ (.int .i64 rs[k].f)).setCell ⟨w.heap.size, 1, none⟩ (.int .i64 rs[k].t)).setCell ⟨w.heap.size, 2, none⟩ (.slice rs[k].a rs[k].l.length rs[k].c)) base p :=
      fun p hp => own_kept (h6 p hp) (fun g' hg' => hold g' (own_from (h6 p hp) g' hg').2 (own_ne (h6 p hp) h2 (by decide) g' hg'))
    have hB2 : Below base w w2 := (Below.mono hbA hbw).trans (Below.mono hb2 (by omega))
    obtain ⟨m1, m2⟩ := ref_rows (W := ((((w2.setCell ⟨b, 1, none⟩ (.slice a9 (rs.length - 1) c9)).setCell ⟨w.heap.size, 0, none⟩ (.int .i64 rs[k].f)).setCell ⟨w.heap.size, 1, none⟩ (.int .i64 rs[k].t)).setCell ⟨w.heap.size, 2, none⟩ (.slice rs[k].a rs[k].l.length rs[k].c))) (rs' := rs.eraseIdx k) (a' := a9) (c' := c9) h1 h2 h3 h4
      ((hfk b hbs).trans (by rw [hlE]; exact hp_set rb 1 _)) (by rw [hlE] at hown ⊢; exact own_mono (own_kept hown (fun g' hg' => by
        have := (own_from hown g' hg').1
        exact (hfk g' (by omega)).trans (hp_set_ne (by show g' ≠ b; omega)))) (by omega)) (fun p hp => hbody p (List.mem_of_mem_eraseIdx hp)) (fun k' hk' hn _ => hold k' hk' hn) (fun g' hg' => .inr (by
        have := (own_from hown g' (by rw [hg'])).1
        omega)) (by simp only [size_set]; omega)
    exact ⟨⟨_, _, rfl⟩, rb.trans h2.symm, r0, r1, _, rfl, hf0, m1, hbody, (((hB2.setCell (p := ⟨b, 1, none⟩) h1 _).setCell (p := ⟨w.heap.size, 0, none⟩) hbw _).setCell (p := ⟨w.heap.size, 1, none⟩) hbw _).setCell (p := ⟨w.heap.size, 2, none⟩) hbw _, m2⟩
  have HF := Lib.hid hF'
  have H2 := Lib.hid h2
  have HL1 := Lib.hid hL1
  have HL2 := Lib.hid hL2
  have HWA := Lib.hid hwA
  have HL1L := Lib.hid hl1
  have HL2L := Lib.hid hl2
  have t0 : decide ((k : Int) < 0) = false := decide_eq_false (by omega)
  have t0' : ¬ (k : Int) < 0 := by omega
  have t1 : decide ((rs.length : Int) ≤ k) = false := decide_eq_false (by omega)
  have t2 : ¬ (rs.length : Int) ≤ k := by omega
  have t3 : (k : Int) < rs.length := by omega
  have t4 : (0 : Int) ≤ k := by omega
  have hic : k ≤ c := by omega
  have hwr : IntKind.i64.wrap ((k : Int) + 1) = (k : Int) + 1 := by rw [IntKind.wrap_i64]; omega
  have hp0 : (0 : Int) ≤ (k : Int) + 1 := by omega
  have hp1 : (k : Int) + 1 ≤ (rs.length : Int) := by omega
  have hp2 : ((k : Int) + 1).toNat = k + 1 := by omega
  have hp3 : k + 1 ≤ rs.length := by omega
  have hp4 : k + 1 ≤ c := by omega
  have c0 : wA.cell? ⟨b, 1, none⟩ = some (.slice (some ⟨g, 0, none⟩) rs.length c) := cell_step d1 hbA
  have hzA : b < wA.heap.size := by omega
  have hzA2 : w.heap.size < wA.heap.size := by omega
  have hzA3 : w.heap.size + 1 < wA.heap.size := by omega
  have HK := Lib.hid hk
  clear h2 h3 h4 h6 hR hF' hL1 hL2 hA0 hA1 hwA h3A hl1 hl2 hlE
  go_enter Try.func31, Try.ntmps31
  go_wp2_with (first | (at_builtin; rw [← HWA.out]; refine wpl_append rfl (.tmp 27) (.tmp 33) 43 rfl wA.heap.size 48 j0 _ 3 40 Try.underlying43 hj hy0 hy1 hy2 rfl (by decide) (.slice none 0 0) 0 [] rfl (World.ownsRow_nil _ _ _ _) (some ⟨g, 0, none⟩) k c (pkcells (rs.take k)) rfl (by simp) HL1L.out HL1.out (pkcells_one _) (by unfold maxLen; omega) (by omega) (Nat.le_refl _) ?_; intro v1 w1 hown1 hg1; rw [Nat.zero_add, List.nil_append] at hown1; obtain ⟨a8, c8, rfl⟩ := own_shape hown1; have hb1 : Below wA.heap.size wA w1 := (Below.refl _ wA).grown hg1 (Nat.le_refl _) (fun j hj => by simp [Value.ownBlock] at hj); have c1 := cell_step c0 hb1; have HO1 := Lib.hid hown1; have HB1 := Lib.hid hb1; clear hown1 hg1 hb1) | (at_builtin; refine wpl_append rfl (.tmp 36) (.tmp 43) 43 rfl wA.heap.size 48 j0 _ 3 40 Try.underlying43 hj hy0 hy1 hy2 rfl (by decide) (.slice a8 k c8) k (pkcells (rs.take k)) rfl HO1.out (some A) (rs.length - (k + 1)) (c - (k + 1)) (pkcells (rs.drop (k + 1))) rfl (by simp) HL2L.out (HL2.out.below HB1.out) (pkcells_one _) (by unfold maxLen; omega) (by omega) HB1.out.size ?_; intro v2 w2 hown2 hg2; have hb2 : Below wA.heap.size wA w2 := HB1.out.grown hg2 HB1.out.size (fun j hj => (HO1.out.lt j hj).1); obtain ⟨⟨a9, c9, rfl⟩, e1, e2, e3, e6⟩ := HF.out w2 v2 hb2 hown2; obtain ⟨x0, x1, x2, g0, g1, g2, hz5⟩ := blk3 (e1.trans H2.out); obtain ⟨a0, a1, aa2, k0, k1, k2, hz6⟩ := blk3 e2; obtain ⟨b0, b1, b2, l0, l1, l2, hz7⟩ := blk3 e3; have HE := Lib.hid e6; have hne1 : b ≠ w.heap.size := (by omega); have hne2 : b ≠ w.heap.size + 1 := (by omega); clear e1 e2 e3 e6 hown2 hg2 hb2))
  obtain ⟨WF, hWF, hr, hn, hbd, hB, hM⟩ := HE.out
  rw [← hWF]
  obtain ⟨r0, r1, r2, _⟩ := blk3 hr
  clear hWF a0 a1 aa2 b0 b1 b2 x0 x1 x2
  exact bodyPost_ret (v := .tuple #[rs[k].val, .int .i64 0]) (by simp [results, Try.results31, go_sem, r0, r1, r2, Result.andThen, Pkt.val] <;> exact ⟨rfl, rfl, rfl, rfl, rfl⟩) rfl ⟨rfl, hn, hbd _ (List.getElem_mem hk), hB, hM⟩
end Go.Proofs.Ytnnfagdhigodbaa.netp
