/-
  slices.IndexFunc and slices.DeleteFunc at votes, for the closure of Prepare.
-/
import Derived.Test.YtodoncmielfbeaaAccE0
import Derived.Lib.SliceRun
namespace Go.Proofs.Ytodoncmielfbeaa.accf
open Go.ChangeShapes Go.WideShapes Go.ChangeAt Go.RowKit
open Go.Proofs.Ytodoncmielfbeaa.kit Go.Proofs.Ytodoncmielfbeaa.mapkit Go.Proofs.Ytodoncmielfbeaa.byt Go.Proofs.Ytodoncmielfbeaa.own Go.Proofs.Ytodoncmielfbeaa.accd Go.Proofs.Ytodoncmielfbeaa.acca Go.Proofs.Ytodoncmielfbeaa.accb Go.Proofs.Ytodoncmielfbeaa.acck Go.Proofs.Ytodoncmielfbeaa.accc Go.Proofs.Ytodoncmielfbeaa.acce
set_option linter.unusedVariables false
set_option linter.unusedSimpArgs false
set_option maxHeartbeats 1000000
set_option maxRecDepth 100000

theorem clos_any (w : World) (cb : Nat) (d s r n : Int) (a : Option Addr) (l c : Nat) (hc : w.cell? ⟨cb, 0, none⟩ = some (.int .i64 d)) (hz : cb < w.heap.size) :
    Calls Try.prog 51 #[.agg #[.int .i64 s, .int .i64 r, .int .i64 n, .slice a l c], .pointer (some ⟨cb, 0, none⟩)] w fun e w' => e = .returned (.bool (decide (s < d))) ∧ Below w.heap.size w w' := by
  go_enter Try.func51, Try.ntmps51
  go_wp2_with fail
  go_ret
  exact ⟨rfl, below_new1 _ _⟩
theorem vt_cells {w : World} {base g c : Nat} {xs : List Vt} (h : w.ownsRow base 45 4 (.slice (some ⟨g, 0, none⟩) xs.length c) xs.length (vcells xs)) {i : Nat} (hi : i < xs.length) :
    w.cell? ⟨g, i * 4, none⟩ = some (.int .i64 xs[i].s) ∧ w.cell? ⟨g, i * 4 + 1, none⟩ = some (.int .i64 xs[i].r) ∧ w.cell? ⟨g, i * 4 + 2, none⟩ = some (.int .i64 xs[i].n) ∧ w.cell? ⟨g, i * 4 + 3, none⟩ = some (.slice xs[i].a xs[i].l.length xs[i].c) := by
  rcases h.2 with ⟨hz, _⟩ | ⟨g', c', cur, e', hg, hh, hc, hm, hsz, hcur⟩
  · simp at hz
  · simp only [Value.slice.injEq, Option.some.injEq, Addr.mk.injEq, and_true, true_and] at e'
    obtain ⟨rfl, _⟩ := e'
    have hget : ∀ j, j < 4 → cur[i * 4 + j]? = (Vt.cells xs[i])[j]? := by
      intro j hj
      have h1 : (cur.toList.take (xs.length * 4))[i * 4 + j]? = (vcells xs)[i * 4 + j]? := by rw [hcur]
      rw [List.getElem?_take, if_pos (by omega), Array.getElem?_toList] at h1
      rw [h1]
      have e : xs = xs.take i ++ xs[i] :: xs.drop (i + 1) := by rw [← List.drop_eq_getElem_cons hi, List.take_append_drop]
      have hl : (vcells (xs.take i)).length = i * 4 := by rw [vcells_len, List.length_take, Nat.min_eq_left (by omega)]
      have e2 : vcells xs = vcells (xs.take i) ++ (Vt.cells xs[i] ++ vcells (xs.drop (i + 1))) := by
        conv => lhs; rw [e]
        rw [vcells_append]
        rfl
      rw [e2, List.getElem?_append_right (by omega), hl, show i * 4 + j - i * 4 = j by omega, List.getElem?_append_left (by simp [Vt.cells]; omega)]
    have hb := (kit.blk hh).1
    refine ⟨?_, ?_, ?_, ?_⟩
    · rw [hb, show i * 4 = i * 4 + 0 by omega, hget 0 (by omega)]; rfl
    · rw [hb, hget 1 (by omega)]; rfl
    · rw [hb, hget 2 (by omega)]; rfl
    · rw [hb, hget 3 (by omega)]; rfl
/-- The first of a list below d. -/
def idx (xs : List Vt) (d : Int) : Int := match xs.findIdx? (fun v => decide (v.s < d)) with | some i => (i : Int) | none => -1
theorem index_any (w : World) (base cb : Nat) (d : Int) (a : Option Addr) (c : Nat) (xs : List Vt) (hlen : xs.length ≤ 16) (hr : w.ownsRow base 45 4 (.slice a xs.length c) xs.length (vcells xs)) (hcb : w.heap[cb]? = some (.cells #[.int .i64 d] 3 (0, 0))) :
    Calls Try.prog 62 #[.slice a xs.length c, .func (.func 51) #[] #[.pointer (some ⟨cb, 0, none⟩)]] w fun e w' => e = .returned (.int .i64 (idx xs d)) ∧ Below w.heap.size w w' := by
  have HR := Lib.hid hr
  have HCB := Lib.hid hcb
  clear hr hcb
  go_enter Try.func62, Try.ntmps62
  go_wp2_with fail
  go_loopw [8] (fun i wr => ∃ k : Nat, k ≤ xs.length ∧ i = .int .i64 k ∧ (∀ j (hj : j < xs.length), j < k → d ≤ xs[j].s) ∧ Hid (Below w.heap.size w wr)) (fun i _ => xs.length - (RowKit.intOf i).toNat)
  case atStart => exact ⟨0, Nat.zero_le _, rfl, by omega, Below.refl _ _⟩
  case round =>
    obtain ⟨k, hk, rfl, hno, hB⟩ := hrel
    by_cases hlt : k < xs.length
    · obtain ⟨g, rfl⟩ := own_ptr HR.out (by omega)
      obtain ⟨q0, q1, q2, q3⟩ := vt_cells (own_below HR.out hB.out) hlt
      obtain ⟨d0, d1, dz⟩ := blk1 (hp_step HCB.out hB.out)
      have hcl := clos_any wr cb d xs[k].s xs[k].r xs[k].n xs[k].a xs[k].l.length xs[k].c d0 dz
      have hgi : ∀ (v : Vt), v = xs[k] → xs[k] = v := fun v h => h.symm
      by_cases hd : xs[k].s < d
      · rw [decide_eq_true hd] at hcl
        have hix : idx xs d = k := by
          have h : xs.findIdx? (fun v => decide (v.s < d)) = some k := by
            rw [List.findIdx?_eq_some_iff_getElem]
            exact ⟨hlt, by simpa using hd, fun j hj => by have := hno j (by omega) hj; simpa using this⟩
          rw [idx, h]
        obtain ⟨x, hx⟩ : ∃ x, x = xs[k] := ⟨_, rfl⟩
        rw [← hx] at q0 q1 q2 q3 hcl
        have HCL := Lib.hid hcl
        have HIX := Lib.hid hix
        clear hcl hix hno hgi hx hd
        go_wp2_with fail
        refine HCL.out.mono ?_; rintro e w4 ⟨rfl, hb4⟩
        have HB4 := Lib.hid (below_step hB.out hb4)
        clear hb4 HCL
        go_wp2_with fail
        go_ret
        exact ⟨by rw [HIX.out]; rfl, HB4.out⟩
      · rw [decide_eq_false hd] at hcl
        have hno' : ∀ j (hj : j < xs.length), j < k + 1 → d ≤ xs[j].s := by
          intro j hj hjk
          by_cases e : j = k
          · subst e; omega
          · exact hno j hj (by omega)
        have HNO := Lib.hid hno'
        obtain ⟨x, hx⟩ : ∃ x, x = xs[k] := ⟨_, rfl⟩
        rw [← hx] at q0 q1 q2 q3 hcl
        have HCL := Lib.hid hcl
        clear hcl hno hno' hgi hx hd
        go_wp2_with fail
        refine HCL.out.mono ?_; rintro e w4 ⟨rfl, hb4⟩
        have HB4 := Lib.hid (below_step hB.out hb4)
        clear hb4 HCL
        go_wp2_with fail
        go_roundw
        case rel => exact ⟨k + 1, by omega, by go_num, HNO.out, HB4⟩
        case measure => simp [RowKit.intOf]; omega
    · obtain rfl : k = xs.length := by omega
      have hix : idx xs d = -1 := by
        have h : xs.findIdx? (fun v => decide (v.s < d)) = none := by
          rw [List.findIdx?_eq_none_iff]
          intro x hx
          obtain ⟨j, hj, rfl⟩ := List.getElem_of_mem hx
          simpa using hno j hj hj
        rw [idx, h]
      clear hno
      go_wp2_with fail
      go_ret
      exact ⟨by rw [hix]; rfl, hB.out⟩
end Go.Proofs.Ytodoncmielfbeaa.accf
