/-
  A log of Pairs and one of bytes that go alike.
-/
import Derived.Test.YtpnkohjppbgiaaaLogLP
import Derived.Test.YtpnkohjppbgiaaaLogLB
import Derived.Lib.ConvBytes
import Derived.Laws.IdiomStrings
namespace Go.Proofs.Ytpnkohjppbgiaaa.slottwin
open Go.ChangeShapes Go.WideShapes Go.ChangeAt Go.RowKit
open Go.Proofs.Ytpnkohjppbgiaaa.kit
set_option linter.unusedVariables false
set_option linter.unusedSimpArgs false
set_option maxHeartbeats 1000000
set_option maxRecDepth 100000

abbrev SL := Option Addr × Nat × Nat
abbrev LA := List ((ByteArray × Int) × Bool)
abbrev LB := List (SL × Bool)
def BytesIn (w : World) (sl : SL) (s : ByteArray) : Prop :=
  ∃ (g c : Nat) (cs : Array Value) (o : Nat × Nat), sl = (some ⟨g, 0, none⟩, s.data.toList.length, c) ∧ w.heap[g]? = some (Obj.cells cs 5 o) ∧ ∀ j (hj : j < s.data.toList.length), cs[j]? = some (.int .u8 ((s.data.toList[j]).toNat : Int))
theorem BytesIn.below {w w' : World} {sl : SL} {s : ByteArray} (h : BytesIn w sl s) (hb : Below w.heap.size w w') : BytesIn w' sl s := by
  obtain ⟨g, c, cs, o, h1, h2, h3⟩ := h
  exact ⟨g, c, cs, o, h1, (hb.block g (Array.getElem?_eq_some_iff.1 h2).1).trans h2, h3⟩
theorem BytesIn.keepA {w w' : World} {sl : SL} {s : ByteArray} (h : BytesIn w sl s) (hb : logp.KeepTy 81 86 w w') : BytesIn w' sl s := by
  obtain ⟨g, c, cs, o, h1, h2, h3⟩ := h
  exact ⟨g, c, cs, o, h1, hb _ _ _ _ h2 (by decide) (by decide), h3⟩
theorem BytesIn.keepB {w w' : World} {sl : SL} {s : ByteArray} (h : BytesIn w sl s) (hb : logb.KeepTy 84 89 w w') : BytesIn w' sl s := by
  obtain ⟨g, c, cs, o, h1, h2, h3⟩ := h
  exact ⟨g, c, cs, o, h1, hb _ _ _ _ h2 (by decide) (by decide), h3⟩
theorem conv_new (w : World) (s : ByteArray) : (convert 9 39 (.string s)).run Try.prog w = .ok (.slice (some ⟨w.heap.size, 0, none⟩) s.data.toList.length (grownCap w s.size 0 5)) (Lib.bytesWorld w 5 s) :=
  Lib.run_convert_string_bytes w 9 39 5 s Try.underlying9 Try.underlying39 Try.underlying5
theorem conv_bytes (w : World) (s : ByteArray) : BytesIn (Lib.bytesWorld w 5 s) (some ⟨w.heap.size, 0, none⟩, s.data.toList.length, grownCap w s.size 0 5) s := by
  refine ⟨_, _, _, _, rfl, Lib.bytesWorld_at_new w _ s, fun j hj => ?_⟩
  have h := Lib.bytesWorld_cell w 5 s j (by simpa using hj)
  have hb := Lib.bytesWorld_at_new w 5 s
  simp only [World.cell?, hb] at h
  rw [List.getD_eq_getElem?_getD, List.getElem?_eq_getElem hj] at h
  exact h
theorem conv_below (w : World) (s : ByteArray) : Below w.heap.size w (Lib.bytesWorld w 5 s) :=
  ⟨rfl, rfl, rfl, by rw [Lib.bytesWorld_size]; omega, fun k hk => Lib.bytesWorld_at_old w _ s k hk⟩
theorem conv_back {w : World} {sl : SL} {s : ByteArray} (h : BytesIn w sl s) : (convert 39 9 (.slice sl.1 sl.2.1 sl.2.2)).run Try.prog w = .ok (.string s) w := by
  obtain ⟨g, c, cs, o, rfl, h2, h3⟩ := h
  have := run_convert_bytes_back (P := Try.prog) w 39 9 5 ⟨g, 0, none⟩ c s.data.toList Try.underlying39 Try.underlying5 Try.underlying9 (fun j hj => by
    have e : (⟨g, 0, none⟩ : Addr).add j = ⟨g, j, none⟩ := by unfold Addr.add; split <;> simp_all
    rw [e]
    simp only [World.cell?, h2]
    exact h3 j hj)
  simpa using this

def Twin (w : World) (A : LA) (B : LB) : Prop := A.length = B.length ∧ ∀ k (h1 : k < A.length) (h2 : k < B.length), (A[k]).2 = (B[k]).2 ∧ ((A[k]).2 = true → BytesIn w (B[k]).1 (A[k]).1.1)
theorem Twin.to {w w' : World} {A : LA} {B : LB} (h : Twin w A B) (hk : ∀ sl s, BytesIn w sl s → BytesIn w' sl s) : Twin w' A B :=
  ⟨h.1, fun k h1 h2 => ⟨(h.2 k h1 h2).1, fun e => hk _ _ ((h.2 k h1 h2).2 e)⟩⟩
theorem twin_nil (w : World) : Twin w [] [] := ⟨rfl, fun k h1 => absurd h1 (by simp)⟩
theorem twin_flags {w : World} {A : LA} {B : LB} (h : Twin w A B) : A.map (fun c => c.2) = B.map (fun c => c.2) := by
  apply List.ext_getElem
  · simpa using h.1
  · intro k h1 h2
    simp only [List.length_map] at h1 h2
    simpa using (h.2 k h1 h2).1
theorem gone_flags (A : LA) : logp.gone A = ((A.map (fun c => c.2)).filter id).length := by
  induction A with
  | nil => rfl
  | cons c A ih => simp only [logp.gone, List.map_cons] at ih ⊢; cases hc : c.2 <;> simp [List.filter, hc, ih]
theorem gone_flagsB (A : LB) : logb.gone A = ((A.map (fun c => c.2)).filter id).length := by
  induction A with
  | nil => rfl
  | cons c A ih => simp only [logb.gone, List.map_cons] at ih ⊢; cases hc : c.2 <;> simp [List.filter, hc, ih]
theorem next_flags (A : LA) : logp.nextN A = ((A.map (fun c => c.2)).takeWhile id).length := by
  induction A with
  | nil => rfl
  | cons c A ih => simp only [logp.nextN, List.map_cons] at ih ⊢; cases hc : c.2 <;> simp [List.takeWhile, hc, ih]
theorem next_flagsB (A : LB) : logb.nextN A = ((A.map (fun c => c.2)).takeWhile id).length := by
  induction A with
  | nil => rfl
  | cons c A ih => simp only [logb.nextN, List.map_cons] at ih ⊢; cases hc : c.2 <;> simp [List.takeWhile, hc, ih]
theorem allF_goneA (i : Int) (A : LA) : (logp.allF i A).length = logp.gone A := by
  induction A generalizing i with
  | nil => rfl
  | cons c A ih => have := ih (i + 1); simp only [logp.allF, logp.gone] at this ⊢; cases hc : c.2 <;> simp [hc, this]
theorem allF_goneB (i : Int) (A : LB) : (logb.allF i A).length = logb.gone A := by
  induction A generalizing i with
  | nil => rfl
  | cons c A ih => have := ih (i + 1); simp only [logb.allF, logb.gone] at this ⊢; cases hc : c.2 <;> simp [hc, this]
theorem twin_next {w : World} {A : LA} {B : LB} (h : Twin w A B) : logp.nextN A = logb.nextN B := by rw [next_flags, next_flagsB, twin_flags h]
theorem twin_len {w : World} {A : LA} {B : LB} (h : Twin w A B) (f : Int) : (logp.allF f A).length = (logb.allF f B).length := by rw [allF_goneA, allF_goneB, gone_flags, gone_flagsB, twin_flags h]
theorem cutI_same (f i : Int) : logp.cutI f i ↔ logb.cutI f i := Iff.rfl
theorem twin_cutE {w : World} {A : LA} {B : LB} (h : Twin w A B) (f i : Int) : logp.cutE f A i = logb.cutE f B i := by
  unfold logp.cutE logb.cutE
  by_cases hc : logp.cutI f i
  · rw [if_pos hc, if_pos ((cutI_same f i).1 hc)]
  · rw [if_neg hc, if_neg (fun e => hc ((cutI_same f i).2 e)), gone_flags, gone_flagsB, List.map_take, List.map_take, twin_flags h]
theorem cutF_same (f i : Int) : logp.cutF f i = logb.cutF f i := rfl
theorem putE_same (f m i : Int) : logp.putE f m i = logb.putE f m i := rfl
theorem twin_cut {w : World} {A : LA} {B : LB} (h : Twin w A B) (f i : Int) : Twin w (logp.cutC f A i) (logb.cutC f B i) := by
  unfold logp.cutC logb.cutC
  by_cases hc : logp.cutI f i
  · rw [if_pos hc, if_pos ((cutI_same f i).1 hc)]; exact h
  · rw [if_neg hc, if_neg (fun e => hc ((cutI_same f i).2 e))]
    refine ⟨by simp [h.1], fun k h1 h2 => ?_⟩
    rw [List.getElem_drop, List.getElem_drop]
    exact h.2 _ _ _
theorem twin_pad {w : World} {A : LA} {B : LB} (h : Twin w A B) (n : Nat) : Twin w (logp.padL A n) (logb.padL B n) := by
  unfold logp.padL logb.padL
  refine ⟨by simp [h.1], fun k h1 h2 => ?_⟩
  by_cases hk : k < A.length
  · rw [List.getElem_append_left hk, List.getElem_append_left (by rw [← h.1]; exact hk)]
    exact h.2 _ _ _
  · rw [List.getElem_append_right (by omega), List.getElem_append_right (by rw [← h.1]; omega)]
    simp
theorem twin_put {w : World} {A : LA} {B : LB} (h : Twin w A B) (f m i : Int) (s : ByteArray) (n : Int) (sl : SL) (hb : BytesIn w sl s) : Twin w (logp.putC f m A i (s, n)) (logb.putC f m B i sl) := by
  unfold logp.putC logb.putC
  by_cases hc : i < f ∨ m ≤ i - f
  · rw [if_pos hc, if_pos hc]; exact h
  · rw [if_neg hc, if_neg hc]
    have hp := twin_pad h ((i - f).toNat + 1)
    refine ⟨by simp [hp.1], fun k h1 h2 => ?_⟩
    by_cases hk : k = (i - f).toNat
    · subst hk
      simp only [List.getElem_set_self]
      exact ⟨trivial, fun _ => hb⟩
    · rw [List.getElem_set_ne (by omega), List.getElem_set_ne (by omega)]
      exact hp.2 _ _ _
theorem twin_look {w : World} {A : LA} {B : LB} (h : Twin w A B) (f i : Int) : (logp.look f A i).2 = (logb.look f B i).2 ∧ ((logp.look f A i).2 = true → BytesIn w (logb.look f B i).1 (logp.look f A i).1.1) := by
  unfold logp.look logb.look
  by_cases hi : i < f
  · rw [if_pos hi, if_pos hi]; exact ⟨rfl, fun e => by simp at e⟩
  · rw [if_neg hi, if_neg hi]
    by_cases hk : (i - f).toNat < A.length
    · rw [List.getElem?_eq_getElem hk, List.getElem?_eq_getElem (by rw [← h.1]; exact hk)]
      exact h.2 _ _ _
    · rw [List.getElem?_eq_none (by omega), List.getElem?_eq_none (by rw [← h.1]; omega)]
      exact ⟨rfl, fun e => by simp at e⟩
theorem put_lookA (f m : Int) (A : LA) (i : Int) (v : ByteArray × Int) (h1 : f ≤ i) (h2 : i - f < m) : logp.look f (logp.putC f m A i v) i = (v, true) := by
  rw [logp.putC, if_neg (by omega)]
  unfold logp.look
  rw [if_neg (by omega), List.getElem?_eq_getElem (by rw [List.length_set, logp.padL_len]; omega), List.getElem_set_self]
  rfl
theorem fit_same {f m : Int} {A : LA} {B : LB} {w : World} (h : logp.Fit f m A) (t : Twin w A B) : logb.Fit f m B := ⟨h.f1, h.f2, h.m1, h.m2, by rw [← t.1]; exact h.len⟩
end Go.Proofs.Ytpnkohjppbgiaaa.slottwin
