/-
  Contracts of (*Box).Done, Missing and Clear.
-/
import Derived.Test.YtgpkenbefolegaaDoorBox
namespace Go.Proofs.YtgpkenbefolegaaDoor.box
open Go.ChangeShapes Go.WideShapes Go.ChangeAt Go.RowKit
open Go.Maps
open Go.Proofs.YtgpkenbefolegaaDoor.kit Go.Proofs.YtgpkenbefolegaaDoor.mapkit Go.Proofs.YtgpkenbefolegaaDoor.byt Go.Proofs.YtgpkenbefolegaaDoor.sum Go.Proofs.YtgpkenbefolegaaDoor.cut
set_option linter.unusedVariables false
set_option linter.unusedSimpArgs false
set_option maxHeartbeats 1000000
set_option maxRecDepth 100000

/-- What Done tells: the bytes in a row of their own, or nil. -/
def DoneIs (V : BoxV) (w : World) (e : Ending) (w' : World) : Prop :=
  ∃ v, e = .returned (.tuple #[v, .bool (doneV V).isSome]) ∧ w'.ownsRow w.heap.size 5 1 v ((doneV V).getD []).length (bcells ((doneV V).getD [])) ∧ Below w.heap.size w w'

theorem done_none {V : BoxV} {w w' : World} (h : doneV V = none) (hb : Below w.heap.size w w') : DoneIs V w (.returned (.tuple #[.slice none 0 0, .bool false])) w' := by
  refine ⟨.slice none 0 0, ?_, ?_, hb⟩
  · rw [h]; rfl
  · rw [h]; exact World.ownsRow_nil _ _ _ _

/-- The map's entries, at any later world. -/
theorem look_at {w : World} {base b m : Nat} {V : BoxV} (h : BoxAt w base b m V) (i : Nat) (hi : i < 16) :
    ∃ v, (∀ W, Below w.heap.size w W → (Instr.lookup 55 (.map (some m)) (.int .i64 i) false).run Tryd.prog W = .ok v W) ∧
      (∀ W, Below w.heap.size w W → (Instr.lookup 55 (.map (some m)) (.int .i64 i) true).run Tryd.prog W = .ok (.tuple #[v, .bool (V.get i).isSome]) W) ∧
      ∃ a c, v = .slice a ((V.get i).getD []).length c ∧ (a = none → ((V.get i).getD []).length = 0 ∧ c = 0) ∧ Lie w a (bcells ((V.get i).getD [])) := by
  obtain ⟨f, hf, hh⟩ := h.map
  have hk := hh i hi
  refine ⟨(f (key i)).getD (.slice none 0 0), fun W hW => (hf.below hW).run_look keyedInt Tryd.underlying55 (zeroB _) (key_of i (by omega)), fun W hW => ?_, ?_⟩
  · rw [(hf.below hW).run_look_ok keyedInt Tryd.underlying55 (zeroB _) (key_of i (by omega))]
    cases hg : V.get i with
    | none => rw [hg] at hk; simp only at hk; rw [hk]; rfl
    | some d => rw [hg] at hk; obtain ⟨a, c, h1, h2⟩ := hk; rw [h1]; rfl
  · cases hg : V.get i with
    | none => rw [hg] at hk; simp only at hk; rw [hk]; exact ⟨none, 0, rfl, by simp, .inl rfl⟩
    | some d =>
      rw [hg] at hk
      obtain ⟨a, c, h1, h2⟩ := hk
      rw [h1]
      obtain ⟨ao, cap, e1, e2, e3, e4⟩ := owned_lie h2
      simp only [Value.slice.injEq, true_and] at e1
      rw [← e1.1] at e2 e3
      rw [← e1.2] at e2
      exact ⟨a, c, rfl, e2, e3⟩

theorem done_ok (w : World) (base b m : Nat) (V : BoxV) (h : BoxAt w base b m V) (ht : Tab w) :
    Calls Tryd.prog 18 #[.pointer (some ⟨b, 0, none⟩)] w (DoneIs V w) := by
  obtain ⟨cnt, hcnt⟩ : ∃ c, c = V.cnt := ⟨_, rfl⟩
  obtain ⟨b0, b1, b2, f0, f1, _, hzb⟩ := blk3 h.blk
  have hlen : ∀ (ty : TypeId) (k : Nat), (Builtin.len_ #[55] ty #[.map (some m)]).run Tryd.prog (w.drewN k) = .ok (.int .i64 cnt) (w.drewN k) := by
    intro ty k
    obtain ⟨f, hf, _⟩ := h.map
    rw [hcnt]
    exact (MapAt.drewN hf k).run_len Tryd.underlying55 ty
  have hwf := h.wf
  have hpos := hwf.pos
  have hle := hwf.le
  obtain ⟨t, hT⟩ : ∃ t : Nat, V.tot = (t : Int) := ⟨V.tot.toNat, by omega⟩
  have htn : V.tot.toNat = t := by omega
  have hdv : doneV V = if cnt = 0 ∨ cnt < t then none else if sumL (joinN V t) = V.sum then some (joinN V t) else none := by
    unfold doneV
    rw [htn, hT, ← hcnt]
    congr 1
    simp
  have HDV := Lib.hid hdv
  have H := Lib.hid h
  have HT := Lib.hid ht
  rw [hT] at b0
  have ht16 : t ≤ 16 := by omega
  clear h hdv hwf htn hT hcnt ht hpos hle
  by_cases h0 : cnt = 0
  · have hn : doneV V = none := by rw [HDV.out, if_pos (.inl h0)]
    have HN := Lib.hid hn
    subst h0
    clear hn
    go_enter Tryd.func18, Tryd.ntmps18
    go_wp2_with fail
    go_quiet (fail)
    go_wp2_with fail
    exact bodyPost_ret (v := .tuple #[.slice none 0 0, .bool false]) (by simp [results, Tryd.results18, go_sem]) rfl (done_none HN.out (below_drewN (Below.refl _ _) _))
  by_cases h1 : cnt < t
  · have hn : doneV V = none := by rw [HDV.out, if_pos (.inr h1)]
    have HN := Lib.hid hn
    clear hn
    have h1' : (cnt : Int) < (t : Int) := by omega
    go_enter Tryd.func18, Tryd.ntmps18
    go_wp2_with fail
    go_quiet (fail)
    go_wp2_with fail
    exact bodyPost_ret (v := .tuple #[.slice none 0 0, .bool false]) (by simp [results, Tryd.results18, go_sem]) rfl (done_none HN.out (below_drewN (Below.refl _ _) _))
  · have hd2 : doneV V = if sumL (joinN V t) = V.sum then some (joinN V t) else none := by rw [HDV.out, if_neg (by omega)]
    have HD2 := Lib.hid hd2
    clear hd2
    have h1' : decide ((cnt : Int) < (t : Int)) = false := by simp; omega
    have hc0 : ((cnt : Int) == 0) = false := by simp; omega
    go_enter Tryd.func18, Tryd.ntmps18
    go_wp2_with fail
    go_quiet (fail)
    go_wp2_with fail
    obtain ⟨j0, hj, hy0, hy1, hy2⟩ := info_parts infoByte
    have hLK : Hid (∀ k, k < t → ∃ v, (∀ W, Below w.heap.size w W → (Instr.lookup 55 (.map (some m)) (.int .i64 k) false).run Tryd.prog W = .ok v W) ∧
      ∃ a c, v = .slice a ((V.get k).getD []).length c ∧ (a = none → ((V.get k).getD []).length = 0 ∧ c = 0) ∧ Lie w a (bcells ((V.get k).getD []))) := by
      intro k hk
      obtain ⟨v, h1, _, h2⟩ := look_at H.out k (by omega)
      exact ⟨v, h1, h2⟩
    have hlens : Hid (∀ k, (joinN V k).length ≤ 512 * k) := fun k => join_len H.out.wf k
    have hbyt : Hid (Byt (joinN V t)) := join_byt H.out.wf t
    go_loopw [4, 34] (fun v i wr => ∃ (k : Nat), k ≤ t ∧ i = .int .i64 k ∧ wr.ownsRow w.heap.size 5 1 v (joinN V k).length (bcells (joinN V k)) ∧ Below w.heap.size w wr) (fun v i _ => t - (intOf i).toNat)
    case atStart => exact ⟨0, Nat.zero_le _, rfl, World.ownsRow_nil _ _ _ _, below_drewN (Below.refl _ _) _⟩
    case round =>
      obtain ⟨k, hk, rfl, hown, hb⟩ := hrel
      by_cases hlt : k < t
      · obtain ⟨v, hlk, a, c, rfl, hnil, hlie⟩ := hLK.out k hlt
        have hlk2 := hlk wr hb
        have hl1 := hlens.out k
        have hl2 := hlens.out (k + 1)
        rw [join_succ, List.length_append] at hl2
        have hbs := hb.size
        have c2 : wr.cell? ⟨b, 2, none⟩ = some (.map (some m)) := by rw [(bcell hb).1 _ _ hzb]; exact b2
        have HO := Lib.hid hown
        have HL := Lib.hid (hlie.below hb)
        obtain ⟨x, hx⟩ : ∃ x, x = (V.get k).getD [] := ⟨_, rfl⟩
        obtain ⟨y, hy⟩ : ∃ y, y = joinN V k := ⟨_, rfl⟩
        rw [← hx] at hlk2 HL hl2 hnil
        rw [← hy] at HO hl1 hl2
        have HXY : Hid (joinN V (k + 1) = y ++ x) := by simp only [Hid]; rw [join_succ, hx, hy]
        clear hown hlie hlk hx hy b0 b1 b2 f0 f1 hlen
        go_wp2_with (at_builtin; refine wpl_append rfl (.tmp 37) (.tmp 43) 22 rfl w.heap.size 5 j0 _ 1 1 Tryd.underlying22 hj hy0 hy1 hy2 rfl (by decide) u4 y.length (bcells y) rfl HO.out a x.length c (bcells x) rfl hnil (by rw [bcells_len]; simp) HL.out (bcells_one _) (by unfold maxLen; omega) (by omega) hbs ?_)
        intro v' w' hown' hgr
        go_wp2_with fail
        have hXY := HXY.out

        refine ⟨⟨k + 1, by omega, by go_num, by rw [hXY, List.length_append, bcells_append]; exact hown', hb.grown hgr hbs (fun j hj => (HO.out.lt j hj).1)⟩, by simp [intOf]; omega⟩
      · obtain rfl : t = k := by omega
        have hbs := hb.size
        obtain ⟨a, c, rfl, hnil, hlie, _⟩ := owned_lie hown
        have hsum : ∀ n, Calls Tryd.prog 28 #[.slice a (joinN V t).length c] (wr.drewN n) fun e w' => e = .returned (.int .u32 (sumL (joinN V t))) ∧ w' = wr.drewN n :=
          fun n => (sum_any _ _ _ _ (by have := hlens.out t; omega) hbyt.out (Tab.below HT.out (below_drewN hb n)) hlie).mono fun _ _ h => ⟨h.1, h.2.symm⟩
        obtain ⟨sm, hsm⟩ : ∃ s, s = sumL (joinN V t) := ⟨_, rfl⟩
        rw [← hsm] at hsum
        have hD2 := HD2.out
        rw [← hsm] at hD2
        have c1 : wr.cell? ⟨b, 1, none⟩ = some (.int .u32 V.sum) := by rw [(bcell hb).1 _ _ hzb]; exact b1
        have HO := Lib.hid hown
        obtain ⟨jl, hjl⟩ : ∃ n, n = (joinN V t).length := ⟨_, rfl⟩
        rw [← hjl]
        by_cases hss : sm = V.sum
        · rw [if_pos hss] at hD2
          have HR : Hid (∀ w', Below w.heap.size w w' → w'.ownsRow w.heap.size 5 1 (.slice a (joinN V t).length c) (joinN V t).length (bcells (joinN V t)) → DoneIs V w (.returned (.tuple #[.slice a (joinN V t).length c, .bool true])) w') := by
            intro w' hb' ho
            refine ⟨.slice a (joinN V t).length c, ?_, ?_, hb'⟩
            · rw [hD2]; rfl
            · rw [hD2]; exact ho
          have HB := Lib.hid hb
          subst hss
          rw [← hjl] at hsum HR HO
          clear hD2 hjl hown hlie hb
          go_wp2_with fail
          go_quiet (first | (go_at_call 28; exact Calls.quiet_of_same (hsum _)))
          go_wp2_with fail
          exact bodyPost_ret (v := .tuple #[.slice a jl c, .bool true]) (by simp [results, Tryd.results18, go_sem]) rfl (HR.out _ (below_drewN HB.out _) HO.out)
        · rw [if_neg hss] at hD2
          have HN := Lib.hid hD2
          have HB := Lib.hid hb
          have hsi : ¬ (sm : Int) = (V.sum : Int) := by omega
          rw [← hjl] at hsum HO
          clear hD2 hjl hown hlie hb
          go_wp2_with fail
          go_quiet (first | (go_at_call 28; exact Calls.quiet_of_same (hsum _)))
          go_wp2_with fail
          exact bodyPost_ret (v := .tuple #[.slice none 0 0, .bool false]) (by simp [results, Tryd.results18, go_sem]) rfl (done_none HN.out (below_drewN HB.out _))
end Go.Proofs.YtgpkenbefolegaaDoor.box
