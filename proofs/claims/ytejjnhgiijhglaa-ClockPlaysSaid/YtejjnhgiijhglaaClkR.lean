/-
  Scripts on a clock: what came in; ran; awake.
-/
import Derived.Test.YtejjnhgiijhglaaClkT
namespace Go.Proofs.Ytejjnhgiijhglaa.clkr
open Go.ChangeShapes Go.WideShapes Go.ChangeAt Go.RowKit Go.Joins
open Go.Proofs.Ytejjnhgiijhglaa.kit Go.Proofs.Ytejjnhgiijhglaa.mapkit Go.Proofs.Ytejjnhgiijhglaa.own Go.Proofs.Ytejjnhgiijhglaa.heapp Go.Proofs.Ytejjnhgiijhglaa.clkp Go.Proofs.Ytejjnhgiijhglaa.clks Go.Proofs.Ytejjnhgiijhglaa.clkt
set_option linter.unusedVariables false
set_option linter.unusedSimpArgs false
set_option maxHeartbeats 1000000
set_option maxRecDepth 100000

structure OpC where
  kind : Int
  nm : ByteArray
  inn : Int
def OpC.ok (o : OpC) : Prop := o.nm.size ≤ maxLen
def ocells (o : OpC) : List Value := [.int .i64 o.kind, .string o.nm, .int .i64 o.inn]
def opC (A : CkS) (o : OpC) : CkS := if o.kind = 1 then stopS A o.nm else if o.kind = 2 then tickS A else setS A o.nm o.inn
def stC (A : CkS) (l : List OpC) : CkS := l.foldl opC A
theorem stC_snoc (A : CkS) (l : List OpC) (k : Nat) (hk : k < l.length) : stC A (l.take (k + 1)) = opC (stC A (l.take k)) l[k] := by
  rw [List.take_succ_eq_append_getElem hk, stC, List.foldl_append]; rfl
/-- What stays of a clock: in order; nothing is due; few ticks, few turns. -/
structure Good (A : CkS) (k : Nat) : Prop where
  fut : Fut A
  now : A.now ≤ k
  turns : A.turns ≤ k
theorem good_start : Good clkp.start 0 := ⟨fut_start, by decide, by decide⟩
theorem good_op {A : CkS} {k : Nat} (h : Good A k) (o : OpC) : Good (opC A o) (k + 1) := by
  obtain ⟨h1, h2, h3⟩ := h
  rw [opC]
  split
  · refine ⟨fut_stop h1 _, ?_, ?_⟩
    · show A.now ≤ _; omega
    · show A.turns ≤ _; omega
  · split
    · refine ⟨fut_tick A, ?_, ?_⟩
      · show A.now + 1 ≤ _; omega
      · show A.turns ≤ _; omega
    · refine ⟨fut_set h1 _ _, ?_, ?_⟩
      · rw [setS]; split
        · show A.now ≤ _; omega
        · omega
      · rw [setS]; split
        · show A.turns + 1 ≤ _; omega
        · omega
theorem good_st {A : CkS} : ∀ (l : List OpC) {k : Nat}, Good A k → Good (stC A l) (k + l.length) := by
  intro l
  induction l generalizing A with
  | nil => exact fun h => h
  | cons o l ih =>
    intro k h
    have h1 := ih (good_op h o)
    rw [List.length_cons, show k + (l.length + 1) = k + 1 + l.length by omega]
    exact h1
theorem list3' {α : Type} {l : List α} (h : l.length = 3) : ∃ a b c, l = [a, b, c] := by
  match l, h with | [a, b, c], _ => exact ⟨a, b, c, rfl⟩
theorem elem_op {H : Type} {enc : TypeId × Value → H} {W : World} (n : Nat) (cs : List Value) (y : DataW H × List MemPlace) (h : DataW.trod enc Try.prog W 0 (fun _ => true) true n 41 cs = some y) :
    ∃ o : OpC, cs = ocells o ∧ o.ok := by
  obtain ⟨ys, n', hy, hyl, hcl, hf⟩ := struct_cells Try.underlying41 (by kernel_rfl) (by kernel_rfl) h
  obtain ⟨c0, c1, c2, rfl⟩ := list3' hcl
  obtain ⟨v0, z0, e0, g0, t0⟩ := hf 0 _ rfl
  obtain ⟨v1, z1, e1, g1, t1⟩ := hf 1 _ rfl
  obtain ⟨v2, z2, e2, g2, t2⟩ := hf 2 _ rfl
  obtain ⟨a, ea, _, wa⟩ := DataW.trod_int Try.underlying3 t0
  obtain ⟨c, ec, _, wc⟩ := DataW.trod_string Try.underlying9 t1
  obtain ⟨b, eb, _, wb⟩ := DataW.trod_int Try.underlying3 t2
  simp at e0 e1 e2 ea eb ec
  subst e0 e1 e2 ea eb ec
  exact ⟨⟨a, c, b⟩, rfl, wc⟩
theorem row_op {w : World} {a : Option Addr} {l : List OpC} (h : RowsAt w a 3 (l.map ocells)) (k : Nat) (hk : k < l.length) :
    ∃ g off, a = some ⟨g, off, none⟩ ∧ g < w.heap.size ∧ w.cell? ⟨g, off + k * 3, none⟩ = some (.int .i64 l[k].kind) ∧ w.cell? ⟨g, off + k * 3 + 1, none⟩ = some (.string l[k].nm) ∧ w.cell? ⟨g, off + k * 3 + 2, none⟩ = some (.int .i64 l[k].inn) := by
  rcases h with h | ⟨b, off, rfl, hz, h3⟩
  · have : l = [] := by simpa using h
    subst this; simp at hk
  · have hi : k < (l.map ocells).length := by simpa using hk
    have e0 := h3 k hi 0 (by omega)
    have e1 := h3 k hi 1 (by omega)
    have e2 := h3 k hi 2 (by omega)
    simp only [List.getElem_map, Nat.add_zero] at e0 e1 e2
    exact ⟨b, off, rfl, hz, e0.trans rfl, e1.trans rfl, e2.trans rfl⟩
theorem many_c {H : Type} {ds sp : List (DataW H)} {ts : List TypeId} {es : List (DataW H)} {j : Nat} (hsz : (DataW.weightsEach Try.prog ts es).all (· ≤ reachBytes) = true) (ht : ts[j]? = some 22) (he : es[j]? = some (.slice ds sp)) : ds.length ≤ 4398046511103 := by
  have e1' : Try.prog.bytesOf 41 = 32 := by kernel_rfl
  have hw3 : (ds.length + sp.length) * Try.prog.bytesOf 41 ∈ (DataW.slice ds sp : DataW H).weights Try.prog 22 := by
    simp only [DataW.weights, Try.underlying22, List.mem_cons, List.mem_append]
    exact .inl trivial
  have h := List.all_eq_true.1 hsz _ (DataW.weights_mem_each ht he _ hw3)
  rw [e1'] at h
  have h2 : (ds.length + sp.length) * 32 ≤ 140737488351232 := of_decide_eq_true h
  omega

theorem ran_ok (w : World) (a : Option Addr) (l : List OpC) (cap : Nat) (hl : l.length ≤ 4398046511103) (hat : RowsAt w a 3 (l.map ocells)) (hok : ∀ k (hk : k < l.length), (l[k]).ok) :
    Calls Try.prog 8 #[.slice a l.length cap] w fun e w' => ∃ cb mb, e = .returned (.pointer (some ⟨cb, 0, none⟩)) ∧ ClkIs w' w.heap.size cb mb (stC clkp.start l) ∧ Below w.heap.size w w' := by
  have hN := Lib.hid (cnew_ok w)
  have HR := Lib.hid (fun (wr : World) (hb : Below w.heap.size w wr) k hk => row_op (hat.below hb) k hk)
  have HOK := Lib.hid hok
  clear hat hok
  go_enter Try.func8, Try.ntmps8
  go_wp2_with fail
  refine hN.out.mono ?_; rintro e w1 ⟨cb, mb, rfl, hL1, hb1⟩
  have HL1 := Lib.hid hL1
  have HB1 := Lib.hid hb1
  clear hL1 hb1 hN
  go_wp2_with fail
  go_loopw [4] (fun i wr => ∃ k : Nat, k ≤ l.length ∧ i = .int .i64 k ∧ Hid (ClkIs wr w.heap.size cb mb (stC clkp.start (l.take k))) ∧ Hid (Below w.heap.size w wr)) (fun i _ => l.length - (intOf i).toNat)
  case atStart => exact ⟨0, Nat.zero_le _, rfl, HL1, HB1⟩
  case round =>
    obtain ⟨k, hk, rfl, hL, hB⟩ := hrel
    by_cases hlt : k < l.length
    · obtain ⟨g, off, rfl, hgz, r0, r1, r2⟩ := HR.out wr hB.out k hlt
      have HS := Lib.hid (stC_snoc clkp.start l k hlt)
      have hG := good_st (l.take k) good_start
      rw [List.length_take, Nat.min_eq_left hk, Nat.zero_add] at hG
      have hO := HOK.out k hlt
      obtain ⟨o, ho⟩ : ∃ o, o = l[k] := ⟨_, rfl⟩
      rw [← ho] at r0 r1 r2 HS hO
      obtain ⟨A, hA⟩ : ∃ A, A = stC clkp.start (l.take k) := ⟨_, rfl⟩
      rw [← hA] at hL HS hG
      have HG := Lib.hid hG
      have HO := Lib.hid hO
      clear ho hA hG hO
      have hsz := hB.out.size
      have HL := hL.out.lt
      have hlom := hL.out.lom
      have HBN : Hid (∀ w4, Keep (CM wr w.heap.size mb) wr w4 → Below w.heap.size w w4) := fun w4 hk4 => hB.out.trans (cm_below hk4 hlom hsz)
      by_cases hk1 : o.kind = 1
      · have HST : Hid (stC clkp.start (l.take (k + 1)) = stopS A o.nm) := by rw [Hid, HS.out, opC, if_pos hk1]
        rw [hk1] at r0
        have HC := Lib.hid (stop_ok wr w.heap.size cb mb A o.nm hL.out hsz HO.out)
        clear hk1
        go_wp2_with fail
        refine HC.out.mono ?_; rintro e w4 ⟨rfl, hl4, hk4⟩
        have HB4 := Lib.hid (HBN.out w4 hk4)
        have HL4 := Lib.hid hl4
        clear hk4 hl4 HC
        go_wp2_with fail
        go_roundw
        case rel => exact ⟨k + 1, by omega, by go_num, by rw [HST.out]; exact HL4, HB4⟩
        case measure => simp [intOf]; omega
      · by_cases hk2 : o.kind = 2
        · have HST : Hid (stC clkp.start (l.take (k + 1)) = tickS A) := by rw [Hid, HS.out, opC, if_neg hk1, if_pos hk2]
          rw [hk2] at r0
          have HC := Lib.hid (tick_ok wr w.heap.size cb mb A hL.out hsz HG.out.fut (by have := HG.out.now; omega))
          clear hk1 hk2
          go_wp2_with fail
          refine HC.out.mono ?_; rintro e w4 ⟨a4, c4, rfl, -, hl4, hk4⟩
          have HB4 := Lib.hid (HBN.out w4 hk4)
          have HL4 := Lib.hid hl4
          clear hk4 hl4 HC
          go_wp2_with fail
          go_roundw
          case rel => exact ⟨k + 1, by omega, by go_num, by rw [HST.out]; exact HL4, HB4⟩
          case measure => simp [intOf]; omega
        · have HST : Hid (stC clkp.start (l.take (k + 1)) = setS A o.nm o.inn) := by rw [Hid, HS.out, opC, if_neg hk1, if_neg hk2]
          have e1 : (o.kind == 1) = false := by simpa using hk1
          have e2 : (o.kind == 2) = false := by simpa using hk2
          have HC := Lib.hid (set_ok wr.drew w.heap.size cb mb A o.nm o.inn (hL.out.below (below_drewN (Below.refl _ wr) 1)) hsz HO.out (by have := HG.out.turns; omega))
          go_wp2_with fail
          go_still_tail 11, (by kernel_rfl)
          change wpList _ _ _ _ _ wr.drew
          go_wp2_with fail
          refine HC.out.mono ?_; rintro e w4 ⟨rfl, hl4, hk4⟩
          have hk4' : Keep (CM wr w.heap.size mb) wr w4 := ⟨hk4.os, hk4.tape, hk4.output, hk4.size, hk4.block⟩
          have HB4 := Lib.hid (HBN.out w4 hk4')
          have HL4 := Lib.hid hl4
          clear hk4 hk4' hl4 HC
          go_wp2_with fail
          go_roundw
          case rel => exact ⟨k + 1, by omega, by go_num, by rw [HST.out]; exact HL4, HB4⟩
          case measure => simp [intOf]; omega
    · obtain rfl : k = l.length := by omega
      rw [List.take_length] at hL
      go_wp2_with fail
      go_ret
      exact ⟨cb, mb, rfl, hL.out, hB.out⟩

/-- A slice of strings in memory of its own: its cells. -/
theorem str_cell {w : World} {N g c : Nat} {ns : List ByteArray} (h : w.ownsRow N 9 1 (.slice (some ⟨g, 0, none⟩) ns.length c) ns.length (ns.map Value.string)) {k : Nat} (hk : k < ns.length) : w.cell? ⟨g, k, none⟩ = some (.string ns[k]) := by
  have e := World.ownsRow.cellAt h k (by omega)
  simpa [hk] using e
theorem eqN (a b : ByteArray) : (a.toList == b.toList) = decide (a = b) := by
  rw [Lib.toList_data, Lib.toList_data]
  by_cases h : a = b
  · simp [h]
  · rw [decide_eq_false h]
    simpa using fun e => h (nm_inj.1 e)
def nx : ByteArray := { data := #[120] }
theorem awake_ok (w : World) : Calls Try.prog 9 #[] w fun e w' => e = .returned (.bool true) ∧ Below w.heap.size w w' := by
  have hE : setE clkp.start nx 1 = 0 := by rfl
  have HS := Lib.hid (fun (w1 : World) (cb mb : Nat) (h : ClkIs w1 w.heap.size cb mb clkp.start) (hb : w.heap.size ≤ w1.heap.size) => (by
    have h9 := set_ok w1 w.heap.size cb mb clkp.start nx 1 h hb (by simp [nx, ByteArray.size, maxLen]) (by decide)
    rw [hE] at h9
    exact h9 : Calls Try.prog 11 #[.pointer (some ⟨cb, 0, none⟩), .string nx, .int .i64 1] w1 fun e w' => e = .returned (.int .i64 0) ∧ ClkIs w' w.heap.size cb mb (setS clkp.start nx 1) ∧ Keep (CM w1 w.heap.size mb) w1 w'))
  have hS1 : setS clkp.start nx 1 = ⟨0, 1, [⟨nx, 1, 1⟩]⟩ := by rw [setS, if_pos hE]; rfl
  have hF : Fut (setS clkp.start nx 1) := fut_set fut_start nx 1
  have hT : told (setS clkp.start nx 1) = [nx] := by rw [hS1]; rfl
  have hN : (tickS (setS clkp.start nx 1)).now = 1 := by rw [hS1]; rfl
  have HTK := Lib.hid (fun (w1 : World) (cb mb : Nat) (h : ClkIs w1 w.heap.size cb mb (setS clkp.start nx 1)) (hb : w.heap.size ≤ w1.heap.size) => (by
    have h9 := tick_ok w1 w.heap.size cb mb _ h hb hF (by rw [hS1]; decide)
    rw [hT] at h9
    exact h9 : Calls Try.prog 13 #[.pointer (some ⟨cb, 0, none⟩)] w1 fun e w' => ∃ a c, e = .returned (.slice a [nx].length c) ∧ w'.ownsRow w1.heap.size 9 1 (.slice a [nx].length c) [nx].length ([nx].map Value.string) ∧ ClkIs w' w.heap.size cb mb (tickS (setS clkp.start nx 1)) ∧ Keep (CM w1 w.heap.size mb) w1 w'))
  have HNW := Lib.hid (fun (w1 : World) (cb mb : Nat) (h : ClkIs w1 w.heap.size cb mb (tickS (setS clkp.start nx 1))) => (by
    have h9 := now_ok w1 w.heap.size cb mb _ h
    rw [hN] at h9
    exact h9 : Calls Try.prog 10 #[.pointer (some ⟨cb, 0, none⟩)] w1 fun e w' => e = .returned (.int .i64 1) ∧ w1 = w'))
  clear hE hS1 hF hT hN
  go_enter Try.func9, Try.ntmps9
  go_wp2_with fail
  refine (cnew_ok w).mono ?_; rintro e w1 ⟨cb, mb, rfl, h1, hb1⟩
  have H1 := Lib.hid h1
  have hs1 := hb1.size
  have hlom := h1.lom
  clear h1
  go_wp2_with fail
  refine (HS.out w1 cb mb H1.out hs1).mono ?_; rintro e w2 ⟨rfl, h2, hk2⟩
  have HB2 := Lib.hid (hb1.trans (cm_below hk2 hlom hs1))
  have H2 := Lib.hid h2
  clear h2 hk2 hb1
  go_wp2_with fail
  refine (HTK.out w2 cb mb H2.out HB2.out.size).mono ?_; rintro e w3 ⟨a3, c3, rfl, hr3, h3, hk3⟩
  have HB3 := Lib.hid (HB2.out.trans (cm_below hk3 hlom HB2.out.size))
  have H3 := Lib.hid h3
  obtain ⟨g3, rfl⟩ := own_ptr hr3 (by simp)
  have x0 : w3.cell? ⟨g3, 0, none⟩ = some (.string nx) := str_cell (ns := [nx]) hr3 (by simp)
  have hgz := (own_from hr3 g3 rfl).2
  unfold nx at x0
  clear h3 hk3 hr3
  simp only [List.length_singleton]
  go_wp2_with fail
  refine (HNW.out w3 cb mb H3.out).mono ?_; rintro e w4 ⟨rfl, rfl⟩
  go_wp2_with fail
  go_ret
  exact ⟨rfl, HB3.out⟩
end Go.Proofs.Ytejjnhgiijhglaa.clkr
