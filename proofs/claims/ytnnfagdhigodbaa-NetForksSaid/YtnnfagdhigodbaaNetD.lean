/-
  slices.Delete of one packet, in place.
-/
import Derived.Test.YtnnfagdhigodbaaKit
import Derived.Test.YtnnfagdhigodbaaKit2
import Derived.Test.YtnnfagdhigodbaaBytes
import Derived.Test.YtnnfagdhigodbaaNetC
import Derived.Test.YtnnfagdhigodbaaNetG
import Derived.Test.YtnnfagdhigodbaaNetS
import Derived.Test.YtnnfagdhigodbaaNetT
import Derived.Test.YtnnfagdhigodbaaProg
import Derived.Lib.Hide
import Derived.Lib.SliceRun
import Derived.Deep.RegionWith
import Derived.Deep.RegionLaw
import Derived.Deep.MidRow
import Derived.Deep.QuietTactic
import Derived.BigQuiet
namespace Go.Proofs.Ytnnfagdhigodbaa.netd
open Go.ChangeShapes Go.WideShapes Go.ChangeAt Go.RowKit
open Go.Proofs.Ytnnfagdhigodbaa.kit Go.Proofs.Ytnnfagdhigodbaa.byt Go.Proofs.Ytnnfagdhigodbaa.netc Go.Proofs.Ytnnfagdhigodbaa.netg Go.Proofs.Ytnnfagdhigodbaa.nets Go.Proofs.Ytnnfagdhigodbaa.nett
set_option linter.unusedVariables false
set_option linter.unusedSimpArgs false
set_option maxHeartbeats 1000000
set_option maxRecDepth 100000

theorem hp_cells {b : Nat} {T : TypeId} {f : Nat × Nat} : ∀ (vs B A C : List Value) (w : World), w.heap[b]? = some (.cells (A ++ B ++ C).toArray T f) → B.length = vs.length → (w.setCells b A.length vs).heap[b]? = some (.cells (A ++ vs ++ C).toArray T f)
  | [], [], A, C, w, h, _ => h
  | v :: vs, x :: B, A, C, w, h, hl => by
    have h1 := hp_set h A.length v
    have e : (A ++ (x :: B) ++ C).toArray.setIfInBounds A.length v = ((A ++ [v]) ++ B ++ C).toArray := by simp
    rw [e] at h1
    have h2 := hp_cells vs B (A ++ [v]) C _ h1 (by simpa using hl)
    rw [List.length_append] at h2
    simpa [World.setCells] using h2
theorem hp_cells_ne {b k : Nat} (hk : k ≠ b) : ∀ (vs : List Value) (o : Nat) (w : World), (w.setCells b o vs).heap[k]? = w.heap[k]?
  | [], o, w => rfl
  | v :: vs, o, w => by rw [World.setCells, hp_cells_ne hk vs, hp_set_ne hk]
theorem size_cells (b : Nat) : ∀ (vs : List Value) (o : Nat) (w : World), (w.setCells b o vs).heap.size = w.heap.size
  | [], o, w => rfl
  | v :: vs, o, w => by rw [World.setCells, size_cells b vs, size_set]
theorem below_cells {base b : Nat} {w : World} (hb : base ≤ b) : ∀ (vs : List Value) (o : Nat) (w2 : World), Below base w w2 → Below base w (w2.setCells b o vs)
  | [], o, w2, h => h
  | v :: vs, o, w2, h => by rw [World.setCells]; exact below_cells hb vs _ _ (h.setCell (p := ⟨b, o, none⟩) hb v)

theorem run_clear3 (w : World) (ty : TypeId) (b o c : Nat) (hc : ∀ j, j < 3 → (w.cell? ⟨b, o + j, none⟩).isSome = true) (hf : ∀ j, j < 3 → w.frozen? ⟨b, o + j, none⟩ = false) :
    (Builtin.clear_ #[43] ty #[.slice (some ⟨b, o, none⟩) 1 c]).run Try.prog w = .ok (.tuple #[]) (w.setCells b o [.int .i64 0, .int .i64 0, .slice none 0 0]) := by
  have hst := run_storeCells_cells (P := Try.prog) b o [.int .i64 0, .int .i64 0, .slice none 0 0] 0 w (by simpa using hc) (by simpa using hf) (by intro v hv; simp at hv; rcases hv with rfl | rfl | rfl <;> rfl)
  simp only [Nat.add_zero] at hst
  have hz : ∀ w : World, (zeroValue 48).run Try.prog w = .ok (.agg #[.int .i64 0, .int .i64 0, .slice none 0 0]) w := by intro w; go_simp
  have hzc : (Builtin.zeroCells (Value.agg #[.int .i64 0, .int .i64 0, .slice none 0 0]).cells 1).toList = [.int .i64 0, .int .i64 0, .slice none 0 0] := by simp [Builtin.zeroCells, Value.cells, List.range, List.range.loop]
  simp [Builtin.clear_, run_underlying Try.underlying43, hz, hzc, hst]

theorem erase_walk (w : World) (g n i c m d : Nat) (D : List Value) (hn : n = m + 1) (hd : m = i + d) (hmc : m + 1 ≤ c) (hD : D.length = d * 3) (hD1 : ∀ u ∈ D, u.oneCell' = true)
    (hcell : ∀ j, j < c * 3 → (w.cell? ⟨g, 0 + j, none⟩).isSome = true ∧ w.frozen? ⟨g, 0 + j, none⟩ = false) (hsrc : ∀ j u, D[j]? = some u → w.cell? ⟨g, (i + 1) * 3 + j, none⟩ = some u) :
    Calls Try.prog 38 #[.slice (some ⟨g, 0, none⟩) n c, .int .i64 i, .int .i64 ((i : Int) + 1)] w fun e w' => e = .returned (.slice (some ⟨g, 0, none⟩) m c) ∧ w' = (w.drew.setCells g (0 + i * 3) D).setCells g (m * 3) [.int .i64 0, .int .i64 0, .slice none 0 0] := by
  obtain ⟨j0, hj, hy0, hy1, hy2⟩ := info_parts infoPkt
  obtain ⟨A, hA, hnews⟩ : ∃ A : Addr, (if c = i + 1 then some (⟨g, 0, none⟩ : Addr) else some ⟨g, (i + 1) * 3, none⟩) = some A ∧ Hid (∀ t u, D[t]? = some u → w.drew.cell? (A.add t) = some u) := by
    by_cases h : c = i + 1
    · refine ⟨⟨g, 0, none⟩, by simp [h], Lib.hid fun t u hu => ?_⟩
      have h0 : D.length = 0 := by rw [hD]; omega
      rw [List.length_eq_zero_iff.1 h0] at hu
      simp at hu
    · refine ⟨⟨g, (i + 1) * 3, none⟩, by simp [h], Lib.hid fun t u hu => ?_⟩
      rw [Addr.add_lit]
      exact hsrc t u hu
  have s1 := Lib.hid hD
  have s2 := Lib.hid hD1
  have s3 : Hid (∀ j, j < D.length → (w.drew.cell? ⟨g, 0 + i * 3 + j, none⟩).isSome = true ∧ w.drew.frozen? ⟨g, 0 + i * 3 + j, none⟩ = false) := by
    refine Lib.hid fun j hj => ?_
    rw [hD] at hj
    rw [Nat.add_assoc]
    exact hcell (i * 3 + j) (by omega)
  obtain ⟨W1, hW1⟩ : ∃ W1, W1 = w.drew.setCells g (0 + i * 3) D := ⟨_, rfl⟩
  have hcl : ∀ ty c', (Builtin.clear_ #[43] ty #[.slice (some ⟨g, m * 3, none⟩) 1 c']).run Try.prog W1 = .ok (.tuple #[]) (W1.setCells g (m * 3) [.int .i64 0, .int .i64 0, .slice none 0 0]) := by
    intro ty c'
    refine run_clear3 W1 ty g (m * 3) c' (fun j hj => ?_) (fun j hj => ?_)
    · rw [hW1]
      refine World.isSome_setCells _ _ _ _ _ ?_
      have := (hcell (m * 3 + j) (by omega)).1
      rwa [Nat.zero_add] at this
    · rw [hW1, World.frozen?_setCells]
      have := (hcell (m * 3 + j) (by omega)).2
      rwa [Nat.zero_add] at this
  have HW := Lib.hid hW1
  have hic : i ≤ c := by omega
  have hp0 : (0 : Int) ≤ (i : Int) + 1 := by omega
  have hp1 : (i : Int) + 1 ≤ (n : Int) := by omega
  have hp2 : ((i : Int) + 1).toNat = i + 1 := by omega
  have hp3 : n ≤ c := by omega
  have hp4 : n - (i + 1) = d := by omega
  have hp5 : i + d = m := by omega
  have hp6 : n - m = 1 := by omega
  have hp7 : m ≤ n := by omega
  have hp8 : ¬ c = m := by omega
  have hp9 : ((i : Int) == (i : Int) + 1) = false := by simp; omega
  have hp10 : i + 1 ≤ n := by omega
  have hp11 : i + 1 ≤ c := by omega
  have hp12 : i < i + 1 := by omega
  clear hcell hsrc hD hD1 hW1 hn hd
  go_enter Try.func38, Try.ntmps38
  go_wp2_with fail
  go_region_law (refine step_append_room rfl (.tmp 22) (.tmp 25) 43 rfl 48 j0 3 Try.underlying43 hj hy1 g 0 i c (by simp [Act.eval, Act.put]) A d (c - (i + 1)) D (by simp [Act.eval, Act.put]) s1.out hnews.out s2.out (by omega) s3.out ?_; rw [← HW.out])
  go_wp2_with fail
  go_ret
  rw [← HW.out]
  exact ⟨rfl, rfl⟩

theorem pkcells_split {ps : List Pkt} {i : Nat} (hi : i < ps.length) : pkcells ps = pkcells (ps.take i) ++ (ps[i].cells ++ pkcells (ps.drop (i + 1))) := by
  have e : ps = ps.take i ++ ps[i] :: ps.drop (i + 1) := by rw [← List.drop_eq_getElem_cons hi, List.take_append_drop]
  conv => lhs; rw [e]
  rw [pkcells_append]
  rfl
theorem pkcells_erase {ps : List Pkt} {i : Nat} : pkcells (ps.eraseIdx i) = pkcells (ps.take i) ++ pkcells (ps.drop (i + 1)) := by
  rw [List.eraseIdx_eq_take_drop_succ, pkcells_append]

/-- What Delete leaves. -/
structure Erased (w w' : World) (base g : Nat) (ps : List Pkt) (i c : Nat) : Prop where
  own : w'.ownsRow base 48 3 (.slice (some ⟨g, 0, none⟩) (ps.length - 1) c) (ps.length - 1) (pkcells (ps.eraseIdx i))
  others : ∀ k, k ≠ g → w'.heap[k]? = w.heap[k]?
  size : w'.heap.size = w.heap.size
  below : Below base w w'

theorem erase_any (w : World) (base g i c : Nat) (ps : List Pkt) (h5 : w.ownsRow base 48 3 (.slice (some ⟨g, 0, none⟩) ps.length c) ps.length (pkcells ps)) (hi : i < ps.length) :
    Calls Try.prog 38 #[.slice (some ⟨g, 0, none⟩) ps.length c, .int .i64 i, .int .i64 ((i : Int) + 1)] w fun e w' => e = .returned (.slice (some ⟨g, 0, none⟩) (ps.length - 1) c) ∧ Erased w w' base g ps i c := by
  obtain ⟨hx, hz | ⟨g', c', cur, e', hg, hh, hc, hm, hsz, hcur⟩⟩ := h5
  · simp at hz
  simp only [Value.slice.injEq, Option.some.injEq, Addr.mk.injEq, and_true, true_and] at e'
  obtain ⟨rfl, rfl⟩ := e'
  obtain ⟨R, hR⟩ : ∃ R, cur.toList = pkcells ps ++ R := ⟨cur.toList.drop (ps.length * 3), by rw [← hcur, List.take_append_drop]⟩
  have hcurE : cur = (pkcells ps ++ R).toArray := by rw [← hR]
  have hlen : (pkcells ps ++ R).length = c * 3 := by rw [← hR]; simpa using hsz
  have hl1 : (pkcells (ps.take i)).length = i * 3 := by rw [pkcells_len, List.length_take, Nat.min_eq_left (by omega)]
  have hl2 : (pkcells (ps.drop (i + 1))).length = (ps.length - (i + 1)) * 3 := by rw [pkcells_len, List.length_drop]
  have hl3 : (ps[i].cells).length = 3 := rfl
  have hsp := pkcells_split hi
  obtain ⟨k1, k2, k3⟩ := blk hh
  refine (erase_walk w g ps.length i c (ps.length - 1) (ps.length - (i + 1)) (pkcells (ps.drop (i + 1))) (by omega) (by omega) (by omega) hl2 (pkcells_one _) (fun j hj => ?_) (fun j u hu => ?_)).mono ?_
  · rw [k1, k2]
    refine ⟨?_, rfl⟩
    rw [Array.getElem?_eq_getElem (by omega)]
    rfl
  · rw [k1, hcurE, List.getElem?_toArray, hsp]
    have hj := (List.getElem?_eq_some_iff.1 hu).1
    rw [List.getElem?_append_left (by simp only [List.length_append]; omega), List.getElem?_append_right (by omega), List.getElem?_append_right (by omega)]
    rw [show (i + 1) * 3 + j - (pkcells (ps.take i)).length - ps[i].cells.length = j by omega]
    exact hu
  · rintro e w' ⟨rfl, rfl⟩
    refine ⟨rfl, ?_⟩
    -- the block behind both stores
    obtain ⟨BD, hBD⟩ : ∃ BD, BD = ps[i].cells ++ pkcells (ps.drop (i + 1)) := ⟨_, rfl⟩
    have hBl : BD.length = 3 + (ps.length - (i + 1)) * 3 := by rw [hBD, List.length_append]; omega
    have hh1 : w.drew.heap[g]? = some (.cells (pkcells (ps.take i) ++ BD.take ((ps.length - (i + 1)) * 3) ++ (BD.drop ((ps.length - (i + 1)) * 3) ++ R)).toArray 48 (0, 0)) := by
      show w.heap[g]? = _
      rw [hh, hcurE, hsp, ← hBD]
      simp only [List.append_assoc]
      rw [← List.append_assoc (BD.take _), List.take_append_drop]
    have hh2 := hp_cells (pkcells (ps.drop (i + 1))) _ _ _ _ hh1 (by rw [List.length_take]; omega)
    rw [← List.append_assoc] at hh2
    have hh3 := hp_cells [.int .i64 0, .int .i64 0, .slice none 0 0] _ _ _ _ hh2 (by rw [List.length_drop]; simp; omega)
    have e1 : (pkcells (ps.take i)).length = 0 + i * 3 := by omega
    have e2 : (pkcells (ps.take i) ++ pkcells (ps.drop (i + 1))).length = (ps.length - 1) * 3 := by rw [List.length_append]; omega
    rw [e2, e1] at hh3
    refine ⟨⟨?_, .inr ⟨g, c, _, rfl, hg, hh3, by omega, hm, ?_, ?_⟩⟩, fun k hk => ?_, ?_, ?_⟩
    · rw [pkcells_erase, List.length_append]; omega
    · simp only [List.size_toArray, List.length_append, List.length_drop, List.length_cons, List.length_nil] at hlen ⊢
      have := pkcells_len ps
      omega
    · rw [pkcells_erase, List.append_assoc]
      exact List.take_left' e2
    · rw [hp_cells_ne hk, hp_cells_ne hk]; rfl
    · rw [size_cells, size_cells]; rfl
    · exact below_cells hg _ _ _ (below_cells hg _ _ _ (below_drewN (Below.refl _ w) 1))
end Go.Proofs.Ytnnfagdhigodbaa.netd
