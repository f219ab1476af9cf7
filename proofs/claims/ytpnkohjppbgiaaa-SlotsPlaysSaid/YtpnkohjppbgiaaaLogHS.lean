/-
  A log of string: what stands in the lists that are told (printed by wip/mklog.py).
-/
import Derived.Test.YtpnkohjppbgiaaaLogTS
namespace Go.Proofs.Ytpnkohjppbgiaaa.logs
open Go.ChangeShapes Go.WideShapes Go.ChangeAt Go.RowKit Go.Shelf
open Go.Proofs.Ytpnkohjppbgiaaa.kit
set_option linter.unusedVariables false
set_option linter.unusedSimpArgs false
set_option maxHeartbeats 1000000
set_option maxRecDepth 100000

theorem hflat_get (l : List (Int × El)) : ∀ i (h : i < l.length) j, j < 2 → (hflat l)[i * 2 + j]? = (hcel l[i])[j]? := by
  induction l with
  | nil => intro i hi; simp at hi
  | cons x l ih =>
    intro i hi j hj
    have h4 : (hcel x).length = 2 := rfl
    have e : hflat (x :: l) = hcel x ++ hflat l := by simp [hflat]
    rw [e]
    cases i with
    | zero => rw [List.getElem?_append_left (by omega)]; simp
    | succ i =>
      rw [List.getElem?_append_right (by omega), h4, show (i + 1) * 2 + j - 2 = i * 2 + j by omega, ih i (by simpa using hi) j hj]
      rfl
theorem own_held {w : World} {base : Nat} {a : Option Addr} {c : Nat} {l : List (Int × El)} (h : w.ownsRow base 125 2 (.slice a l.length c) l.length (hflat l)) (k : Nat) (hk : k < l.length) :
    ∃ g, a = some ⟨g, 0, none⟩ ∧ g < w.heap.size ∧ w.cell? ⟨g, k * 2, none⟩ = some (.int .i64 l[k].1) ∧ w.cell? ⟨g, k * 2 + 1, none⟩ = some (.string (l[k].2)) := by
  rcases h.2 with ⟨e, hz⟩ | ⟨g, cap, cur, e, hg, hh, hc, hm, hsz, hx⟩
  · omega
  · simp only [Value.slice.injEq] at e
    obtain ⟨rfl, e1, rfl⟩ := e
    have hb := blk hh
    have gt : ∀ i, i < l.length * 2 → w.cell? ⟨g, i, none⟩ = (hflat l)[i]? := by
      intro i hi
      rw [hb.1 i, ← hx, List.getElem?_take, if_pos hi, Array.getElem?_toList]
    refine ⟨g, rfl, hb.2.2, ?_, ?_⟩
    · rw [gt _ (by omega)]; exact (hflat_get l k hk 0 (by omega)).trans rfl
    · rw [gt _ (by omega)]; exact (hflat_get l k hk 1 (by omega)).trans rfl
theorem own_nums {w : World} {base : Nat} {a : Option Addr} {c : Nat} {l : List Int} (h : w.ownsRow base 3 1 (.slice a l.length c) l.length (nums l)) (k : Nat) (hk : k < l.length) :
    ∃ g, a = some ⟨g, 0, none⟩ ∧ g < w.heap.size ∧ w.cell? ⟨g, k, none⟩ = some (.int .i64 l[k]) := by
  rcases h.2 with ⟨e, hz⟩ | ⟨g, cap, cur, e, hg, hh, hc, hm, hsz, hx⟩
  · omega
  · simp only [Value.slice.injEq] at e
    obtain ⟨rfl, e1, rfl⟩ := e
    have hb := blk hh
    refine ⟨g, rfl, hb.2.2, ?_⟩
    rw [hb.1 k, ← Array.getElem?_toList]
    have : (cur.toList.take (l.length * 1))[k]? = (nums l)[k]? := by rw [hx]
    rw [List.getElem?_take, if_pos (by omega)] at this
    rw [this]
    simp [nums, hk]

theorem allF_at (i : Int) (cs : List (El × Bool)) (k : Nat) (hk : k < cs.length) (hc : (cs[k]).2 = true) (hj : (allF i (cs.take k)).length < (allF i cs).length) : (allF i cs)[(allF i (cs.take k)).length] = (i + k, (cs[k]).1) := by
  have h := allF_pre i cs (k + 1)
  rw [allF_snoc i cs k hk, hc] at h
  obtain ⟨t, ht⟩ := h
  have e : (allF i cs)[(allF i (cs.take k)).length]? = some (i + k, (cs[k]).1) := by
    rw [← ht, List.append_assoc, List.getElem?_append_right (Nat.le_refl _), Nat.sub_self]
    rfl
  rw [List.getElem?_eq_getElem hj] at e
  exact Option.some.inj e
theorem holesF_at (i : Int) (cs : List (El × Bool)) (k : Nat) (hk : k < cs.length) (hc : (cs[k]).2 = false) (hj : (holesF i (cs.take k)).length < (holesF i cs).length) : (holesF i cs)[(holesF i (cs.take k)).length] = i + k := by
  have h := holesF_pre i cs (k + 1)
  rw [holesF_snoc i cs k hk, hc] at h
  obtain ⟨t, ht⟩ := h
  have e : (holesF i cs)[(holesF i (cs.take k)).length]? = some (i + k) := by
    rw [← ht, List.append_assoc, List.getElem?_append_right (Nat.le_refl _), Nat.sub_self]
    rfl
  rw [List.getElem?_eq_getElem hj] at e
  exact Option.some.inj e
theorem both_len (i : Int) (cs : List (El × Bool)) : (allF i cs).length + (holesF i cs).length = cs.length := by
  induction cs generalizing i with
  | nil => rfl
  | cons c cs ih =>
    have := ih (i + 1)
    simp only [allF, holesF]
    split <;> simp <;> omega
theorem next_full : ∀ (cs : List (El × Bool)) (k : Nat) (hk : k < cs.length), k < nextN cs → (cs[k]).2 = true := by
  intro cs
  induction cs with
  | nil => intro k hk; simp at hk
  | cons x l ih =>
    intro k hk h
    cases hx : x.2 with
    | false => simp [nextN, List.takeWhile, hx] at h
    | true =>
      cases k with
      | zero => simpa using hx
      | succ k =>
        have := ih k (by simpa using hk) (by simp only [nextN] at h ⊢; simp [List.takeWhile, hx] at h; exact h)
        simpa using this
theorem full_len (i : Int) (cs : List (El × Bool)) : ∀ k, k ≤ nextN cs → (allF i (cs.take k)).length = k := by
  intro k
  induction k with
  | zero => intro _; rfl
  | succ k ih =>
    intro hk
    have hl : k < cs.length := Nat.lt_of_lt_of_le (by omega : k < nextN cs) (nextN_le cs)
    rw [allF_snoc i cs k hl, next_full cs k hl (by omega)]
    simp [ih (by omega)]
theorem runF_full (i : Int) (cs : List (El × Bool)) : (runF i cs).length = nextN cs := full_len i cs _ (Nat.le_refl _)
theorem runF_pre (i : Int) (cs : List (El × Bool)) : runF i cs <+: allF i cs := allF_pre i cs _
theorem runF_at (i : Int) (cs : List (El × Bool)) (k : Nat) (hk : k < (runF i cs).length) (hk2 : k < (allF i cs).length) : ∃ v, (runF i cs)[k] = (i + k, v) ∧ (allF i cs)[k] = (i + k, v) := by
  have hn := runF_full i cs
  have hl : k < cs.length := Nat.lt_of_lt_of_le (by omega : k < nextN cs) (nextN_le cs)
  have hlen := full_len i cs k (by omega)
  have e := allF_at i cs k hl (next_full cs k hl (by omega)) (by omega)
  have e2 : (allF i cs)[k] = (i + k, (cs[k]).1) := by
    rw [← e]; congr 1; exact hlen.symm
  refine ⟨(cs[k]).1, ?_, e2⟩
  rw [← e2]
  have h : (runF i cs)[k]? = (allF i cs)[k]? := by
    obtain ⟨t, ht⟩ := runF_pre i cs
    rw [← ht, List.getElem?_append_left hk]
  rw [List.getElem?_eq_getElem hk, List.getElem?_eq_getElem hk2] at h
  exact Option.some.inj h
end Go.Proofs.Ytpnkohjppbgiaaa.logs
