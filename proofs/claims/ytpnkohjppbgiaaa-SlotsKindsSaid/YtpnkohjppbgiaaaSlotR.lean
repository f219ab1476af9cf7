/-
  A log of ints on which a script was carried out.
-/
import Derived.Test.YtpnkohjppbgiaaaLogLI
namespace Go.Proofs.Ytpnkohjppbgiaaa.slotr
open Go.ChangeShapes Go.WideShapes Go.ChangeAt Go.RowKit
open Go.Proofs.Ytpnkohjppbgiaaa.kit Go.Proofs.Ytpnkohjppbgiaaa.logi
set_option linter.unusedVariables false
set_option linter.unusedSimpArgs false
set_option maxHeartbeats 1000000
set_option maxRecDepth 100000

structure OpV where
  kind : Int
  i : Int
  v : ByteArray
def OpV.ok (o : OpV) : Prop := -9223372036854775808 ≤ o.i ∧ o.i ≤ 9223372036854775807
def ocells (o : OpV) : List Value := [.int .i64 o.kind, .int .i64 o.i, .string o.v]
def step (m : Int) (s : Int × List (Int × Bool)) (o : OpV) : Int × List (Int × Bool) :=
  if o.kind = 1 then s else if o.kind = 2 then (cutF s.1 o.i, cutC s.1 s.2 o.i) else (s.1, putC s.1 m s.2 o.i o.v.size)
def stOf (f m : Int) (l : List OpV) : Int × List (Int × Bool) := l.foldl (step m) (f, [])
theorem stOf_snoc (f m : Int) (l : List OpV) (k : Nat) (hk : k < l.length) : stOf f m (l.take (k + 1)) = step m (stOf f m (l.take k)) l[k] := by
  rw [List.take_succ_eq_append_getElem hk, stOf, List.foldl_append]; rfl
theorem step_fit {m : Int} {s : Int × List (Int × Bool)} (h : Fit s.1 m s.2) (o : OpV) : Fit (step m s o).1 m (step m s o).2 := by
  unfold step
  split
  · exact h
  · split
    · exact cut_fit h _
    · exact put_fit h _ _
theorem i64_wf {n : Int} (h : (Lit.int .i64 n).wf = true) : -9223372036854775808 ≤ n ∧ n ≤ 9223372036854775807 := by
  simp [Lit.wf, IntKind.min, IntKind.max, IntKind.signed, IntKind.bits] at h
  omega
theorem list3' {α : Type} {l : List α} (h : l.length = 3) : ∃ a b c, l = [a, b, c] := by
  match l, h with | [a, b, c], _ => exact ⟨a, b, c, rfl⟩
theorem elem_op {H : Type} {enc : TypeId × Value → H} {W : World} (n : Nat) (cs : List Value) (y : DataW H × List MemPlace) (h : DataW.trod enc Try.prog W 0 (fun _ => true) true n 41 cs = some y) :
    ∃ o : OpV, cs = ocells o ∧ o.ok := by
  obtain ⟨ys, n', hy, hyl, hcl, hf⟩ := struct_cells Try.underlying41 (by kernel_rfl) (by kernel_rfl) h
  obtain ⟨c0, c1, c2, rfl⟩ := list3' hcl
  obtain ⟨v0, z0, e0, g0, t0⟩ := hf 0 _ rfl
  obtain ⟨v1, z1, e1, g1, t1⟩ := hf 1 _ rfl
  obtain ⟨v2, z2, e2, g2, t2⟩ := hf 2 _ rfl
  obtain ⟨a, ea, _, wa⟩ := DataW.trod_int Try.underlying3 t0
  obtain ⟨b, eb, _, wb⟩ := DataW.trod_int Try.underlying3 t1
  obtain ⟨c, ec, _, wc⟩ := DataW.trod_string Try.underlying9 t2
  simp at e0 e1 e2 ea eb ec
  subst e0 e1 e2 ea eb ec
  exact ⟨⟨a, b, c⟩, rfl, i64_wf wb⟩

theorem row_op {w : World} {a : Option Addr} {l : List OpV} (h : RowsAt w a 3 (l.map ocells)) (k : Nat) (hk : k < l.length) :
    ∃ g off, a = some ⟨g, off, none⟩ ∧ g < w.heap.size ∧ w.cell? ⟨g, off + k * 3, none⟩ = some (.int .i64 l[k].kind) ∧ w.cell? ⟨g, off + k * 3 + 1, none⟩ = some (.int .i64 l[k].i) ∧ w.cell? ⟨g, off + k * 3 + 2, none⟩ = some (.string l[k].v) := by
  rcases h with h | ⟨b, off, rfl, hz, h3⟩
  · have : l = [] := by simpa using h
    subst this; simp at hk
  · have hi : k < (l.map ocells).length := by simpa using hk
    have e0 := h3 k hi 0 (by omega)
    have e1 := h3 k hi 1 (by omega)
    have e2 := h3 k hi 2 (by omega)
    simp only [List.getElem_map, Nat.add_zero] at e0 e1 e2
    exact ⟨b, off, rfl, hz, e0.trans rfl, e1.trans rfl, e2.trans rfl⟩

theorem ran_ok (w : World) (f0 m0 : Int) (a : Option Addr) (l : List OpV) (cap : Nat) (hl : l.length ≤ 9223372036854775807) (hat : RowsAt w a 3 (l.map ocells)) (hok : ∀ k (hk : k < l.length), (l[k]).ok) :
    Calls Try.prog 9 #[.int .i64 f0, .int .i64 m0, .slice a l.length cap] w fun e w' => e = .returned (.pointer (some ⟨w.heap.size, 0, none⟩)) ∧
      LogAt w' w.heap.size w.heap.size (stOf (min (max f0 1) 1099511627776) (min (max m0 1) 1024) l).1 (min (max m0 1) 1024) (stOf (min (max f0 1) 1099511627776) (min (max m0 1) 1024) l).2 ∧
      Fit (stOf (min (max f0 1) 1099511627776) (min (max m0 1) 1024) l).1 (min (max m0 1) 1024) (stOf (min (max f0 1) 1099511627776) (min (max m0 1) 1024) l).2 ∧ Below w.heap.size w w' := by
  have hN := Lib.hid (new_ok w f0 m0)
  obtain ⟨f, hf⟩ : ∃ f, f = min (max f0 1) 1099511627776 := ⟨_, rfl⟩
  obtain ⟨m, hm⟩ : ∃ m, m = min (max m0 1) 1024 := ⟨_, rfl⟩
  have hF0 : Fit f m [] := ⟨by omega, by omega, by omega, by omega, by simp; omega⟩
  rw [← hf, ← hm]
  rw [← hf, ← hm] at hN
  clear hf hm
  have HR := Lib.hid (fun (wr : World) (hb : Below w.heap.size w wr) k hk => row_op (hat.below hb) k hk)
  clear hat
  have HOK := Lib.hid hok
  have HF0 := Lib.hid hF0
  clear hok hF0
  go_enter Try.func9, Try.ntmps9
  go_wp2_with fail
  refine hN.out.mono ?_; rintro e w1 ⟨rfl, hL1, hb1⟩
  have HL1 := Lib.hid hL1
  have HB1 := Lib.hid hb1
  clear hL1 hb1 hN
  go_wp2_with fail
  go_loopw [8] (fun i wr => ∃ k : Nat, k ≤ l.length ∧ i = .int .i64 k ∧ Hid (LogAt wr w.heap.size w.heap.size (stOf f m (l.take k)).1 m (stOf f m (l.take k)).2) ∧ Hid (Fit (stOf f m (l.take k)).1 m (stOf f m (l.take k)).2) ∧ Hid (Below w.heap.size w wr)) (fun i _ => l.length - (intOf i).toNat)
  case atStart => exact ⟨0, Nat.zero_le _, rfl, HL1, HF0, HB1⟩
  case round =>
    obtain ⟨k, hk, rfl, hL, hF, hB⟩ := hrel
    by_cases hlt : k < l.length
    · obtain ⟨g, off, rfl, hgz, r0, r1, r2⟩ := HR.out wr hB.out k hlt
      have HS := Lib.hid (stOf_snoc f m l k hlt)
      obtain ⟨o, ho⟩ : ∃ o, o = l[k] := ⟨_, rfl⟩
      have hoo : o.ok := ho ▸ HOK.out k hlt
      rw [← ho] at r0 r1 r2 HS
      have hfit := step_fit hF.out o
      rw [← HS.out] at hfit
      have HF := Lib.hid hfit
      clear ho hfit
      obtain ⟨hi1, hi2⟩ := hoo
      have hsz := hB.out.size
      by_cases hk1 : o.kind = 1
      · have hst : stOf f m (l.take (k + 1)) = stOf f m (l.take k) := by rw [HS.out, step, if_pos hk1]
        have HST := Lib.hid hst
        rw [hk1] at r0
        clear hst hk1
        have HG := Lib.hid (get_ok wr _ _ _ _ _ o.i hL.out hF.out hi1 hi2)
        go_wp2_with fail
        refine HG.out.mono ?_; rintro e w4 ⟨rfl, hb4⟩
        have HB4 := Lib.hid (Below.trans hB.out (Below.mono hb4 hsz))
        have HL4 := Lib.hid (hL.out.below hb4)
        clear hb4
        go_wp2_with fail
        go_roundw
        case rel => exact ⟨k + 1, by omega, by go_num, by rw [HST.out]; exact HL4, HF, HB4⟩
        case measure => simp [intOf]; omega
      · by_cases hk2 : o.kind = 2
        · have hst : stOf f m (l.take (k + 1)) = (cutF (stOf f m (l.take k)).1 o.i, cutC (stOf f m (l.take k)).1 (stOf f m (l.take k)).2 o.i) := by rw [HS.out, step, if_neg hk1, if_pos hk2]
          have HST := Lib.hid hst
          rw [hk2] at r0
          clear hst hk1 hk2
          have HG := Lib.hid (cut_ok wr _ _ _ _ _ o.i hL.out hF.out hsz)
          go_wp2_with fail
          refine HG.out.mono ?_; rintro e w4 ⟨rfl, hl4, hb4⟩
          have HB4 := Lib.hid (Below.trans hB.out hb4)
          have HL4 := Lib.hid hl4
          clear hb4 hl4
          go_wp2_with fail
          go_roundw
          case rel => exact ⟨k + 1, by omega, by go_num, by rw [HST.out]; exact HL4, HF, HB4⟩
          case measure => simp [intOf]; omega
        · have hst : stOf f m (l.take (k + 1)) = ((stOf f m (l.take k)).1, putC (stOf f m (l.take k)).1 m (stOf f m (l.take k)).2 o.i o.v.size) := by rw [HS.out, step, if_neg hk1, if_neg hk2]
          have HST := Lib.hid hst
          have e1 : (o.kind == 1) = false := by simpa using hk1
          have e2 : (o.kind == 2) = false := by simpa using hk2
          clear hst
          have HG : Hid (∀ W, Below wr.heap.size wr W → Calls Try.prog 14 #[.pointer (some ⟨w.heap.size, 0, none⟩), .int .i64 o.i, .int .i64 o.v.size] W fun e w' => e = .returned (.int .i64 (putE (stOf f m (l.take k)).1 m o.i)) ∧ LogAt w' w.heap.size w.heap.size (stOf f m (l.take k)).1 m (putC (stOf f m (l.take k)).1 m (stOf f m (l.take k)).2 o.i o.v.size) ∧ Below w.heap.size W w') :=
            fun W hW => put_ok W _ _ _ _ _ o.i o.v.size (hL.out.below hW) hF.out (Nat.le_trans hsz hW.size) hi1 hi2
          go_wp2_with fail
          go_region_with (first | (go_at_call 14; refine (HG.out _ (below_drewN (Below.refl _ _) 1)).mono ?_; rintro e w4 ⟨rfl, hl4, hb4⟩))
          all_goals
            have HB4 := Lib.hid (Below.trans hB.out (Below.trans (below_drewN (Below.refl _ _) 1) hb4))
            have HL4 := Lib.hid hl4
            clear hb4 hl4
            go_wp2_with fail
            go_roundw
            case rel => exact ⟨k + 1, by omega, by go_num, by rw [HST.out]; exact HL4, HF, HB4⟩
            case measure => simp [intOf]; omega
    · obtain rfl : k = l.length := by omega
      rw [List.take_length] at hL hF
      go_wp2_with fail
      go_ret
      exact ⟨rfl, hL.out, hF.out, hB.out⟩
end Go.Proofs.Ytpnkohjppbgiaaa.slotr
