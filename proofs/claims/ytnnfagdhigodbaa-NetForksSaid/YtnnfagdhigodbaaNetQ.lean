/-
  A net as data: what is under way as a list of packets; each call for whatever arguments.
-/
import Derived.Test.YtnnfagdhigodbaaNetU
import Derived.Test.YtnnfagdhigodbaaNetE
import Derived.Test.YtnnfagdhigodbaaNetF
namespace Go.Proofs.Ytnnfagdhigodbaa.netq
open Go.ChangeShapes Go.WideShapes Go.ChangeAt Go.RowKit
open Go.Proofs.Ytnnfagdhigodbaa.kit Go.Proofs.Ytnnfagdhigodbaa.byt Go.Proofs.Ytnnfagdhigodbaa.netc Go.Proofs.Ytnnfagdhigodbaa.netg Go.Proofs.Ytnnfagdhigodbaa.nets Go.Proofs.Ytnnfagdhigodbaa.nett Go.Proofs.Ytnnfagdhigodbaa.netu Go.Proofs.Ytnnfagdhigodbaa.netd Go.Proofs.Ytnnfagdhigodbaa.nete Go.Proofs.Ytnnfagdhigodbaa.netf
set_option linter.unusedVariables false
set_option linter.unusedSimpArgs false
set_option maxHeartbeats 1000000
set_option maxRecDepth 100000

structure Q where
  f : Int
  t : Int
  l : List Nat
def q (p : Pkt) : Q := ⟨p.f, p.t, p.l⟩
def NetIs (w : World) (base b : Nat) (nodes : Int) (qs : List Q) (S : Cuts) : Prop := ∃ ps, NetAt w base b nodes ps S ∧ ps.map q = qs
def Fit (qs : List Q) : Prop := qs.length ≤ 256 ∧ ∀ x ∈ qs, x.l.length ≤ 16384
def isN (nodes x : Int) : Prop := 1 ≤ x ∧ x ≤ nodes
instance (nodes x : Int) : Decidable (isN nodes x) := inferInstanceAs (Decidable (_ ∧ _))
def may (nodes x y : Int) (n : Nat) : Prop := isN nodes x ∧ isN nodes y ∧ n ≤ 16384
instance (nodes x y : Int) (n : Nat) : Decidable (may nodes x y n) := inferInstanceAs (Decidable (_ ∧ _ ∧ _))
def sendE (nodes : Int) (qs : List Q) (S : Cuts) (x y : Int) (n : Nat) : Int := if ¬ may nodes x y n then 1 else if pr x y ∈ S then 0 else if 256 ≤ qs.length then 3 else 0
def sendQ (nodes : Int) (qs : List Q) (S : Cuts) (x y : Int) (l : List Nat) : List Q := if ¬ may nodes x y l.length then qs else if pr x y ∈ S then qs else if 256 ≤ qs.length then qs else qs ++ [⟨x, y, l⟩]
def inQ (qs : List Q) (i : Int) : Prop := 0 ≤ i ∧ i < qs.length
instance (qs : List Q) (i : Int) : Decidable (inQ qs i) := inferInstanceAs (Decidable (_ ∧ _))
def takeE (qs : List Q) (i : Int) : Int := if inQ qs i then 0 else 60
def takeQ (qs : List Q) (i : Int) : List Q := if inQ qs i then qs.eraseIdx i.toNat else qs
def dblE (qs : List Q) (i : Int) : Int := if ¬ inQ qs i then 60 else if 256 ≤ qs.length then 3 else 0
def dblQ (qs : List Q) (i : Int) : List Q := if ¬ inQ qs i then qs else if 256 ≤ qs.length then qs else qs ++ qs[i.toNat]?.toList
def cutM (nodes x y : Int) : Prop := isN nodes x ∧ isN nodes y ∧ x ≠ y
instance (nodes x y : Int) : Decidable (cutM nodes x y) := inferInstanceAs (Decidable (_ ∧ _ ∧ _))
def cutE (nodes x y : Int) : Int := if cutM nodes x y then 0 else 1
def cutS (nodes : Int) (S : Cuts) (x y : Int) : Cuts := if cutM nodes x y then cadd S (pr x y) else S

theorem Fit.nil : Fit [] := ⟨by simp, by simp⟩
theorem Fit.send {nodes : Int} {qs : List Q} (h : Fit qs) (S : Cuts) (x y : Int) (l : List Nat) : Fit (sendQ nodes qs S x y l) := by
  unfold sendQ
  split
  · exact h
  · next hm =>
    split
    · exact h
    · split
      · exact h
      · refine ⟨by rw [List.length_append]; simp; omega, fun z hz => ?_⟩
        rcases List.mem_append.1 hz with hz | hz
        · exact h.2 z hz
        · rw [List.mem_singleton.1 hz]; exact (Decidable.not_not.1 hm).2.2
theorem Fit.take {qs : List Q} (h : Fit qs) (i : Int) : Fit (takeQ qs i) := by
  unfold takeQ
  split
  · exact ⟨Nat.le_trans (List.length_eraseIdx_le _ _) h.1, fun x hx => h.2 x (List.mem_of_mem_eraseIdx hx)⟩
  · exact h
theorem Fit.dbl {qs : List Q} (h : Fit qs) (i : Int) : Fit (dblQ qs i) := by
  unfold dblQ
  split
  · exact h
  · split
    · exact h
    · refine ⟨?_, fun z hz => ?_⟩
      · rw [List.length_append]
        have : qs[i.toNat]?.toList.length ≤ 1 := by cases qs[i.toNat]? <;> simp
        omega
      · rcases List.mem_append.1 hz with hz | hz
        · exact h.2 z hz
        · refine h.2 z ?_
          rw [Option.mem_toList] at hz
          exact List.mem_of_getElem? hz

theorem NetIs.below {w w' : World} {base b : Nat} {nodes : Int} {qs : List Q} {S : Cuts} (h : NetIs w base b nodes qs S) (hb : Below w.heap.size w w') : NetIs w' base b nodes qs S := by
  obtain ⟨ps, h1, h2⟩ := h
  exact ⟨ps, h1.below hb, h2⟩

theorem newq (w : World) (n : Int) (h1 : 1 ≤ n) (h2 : n ≤ 5) : Calls Try.prog 17 #[.int .i64 n] w fun e w' => e = .returned (.tuple #[.pointer (some ⟨w.heap.size + 1, 0, none⟩), .int .i64 0]) ∧ NetIs w' w.heap.size (w.heap.size + 1) n [] [] ∧ Below w.heap.size w w' := by
  refine (new_any w n h1 h2).mono ?_; rintro e w' ⟨rfl, hn, hb⟩
  exact ⟨rfl, ⟨[], hn, rfl⟩, hb⟩
theorem lenq (w : World) (base b : Nat) (nodes : Int) (qs : List Q) (S : Cuts) (h : NetIs w base b nodes qs S) : Calls Try.prog 13 #[.pointer (some ⟨b, 0, none⟩)] w fun e w' => e = .returned (.int .i64 qs.length) ∧ w = w' := by
  obtain ⟨ps, h1, rfl⟩ := h
  rw [List.length_map]
  exact len_any w base b nodes ps S h1
theorem healm (w : World) (base b : Nat) (nodes : Int) (qs : List Q) (S : Cuts) (h : NetIs w base b nodes qs S) (hbw : base ≤ w.heap.size) : Calls Try.prog 12 #[.pointer (some ⟨b, 0, none⟩)] w fun e w' => e = .returned (.int .i64 0) ∧ NetIs w' base b nodes qs [] ∧ Below base w w' ∧ Moved w w' b := by
  obtain ⟨ps, h1, rfl⟩ := h
  refine (heal_any w base b nodes ps S h1 hbw).mono ?_; rintro e w' ⟨rfl, hn, hb⟩
  exact ⟨rfl, ⟨_, hn, rfl⟩, hb⟩
theorem cutm (w : World) (base b : Nat) (nodes : Int) (qs : List Q) (S : Cuts) (x y : Int) (h : NetIs w base b nodes qs S) (hbw : base ≤ w.heap.size) : Calls Try.prog 15 #[.pointer (some ⟨b, 0, none⟩), .int .i64 x, .int .i64 y] w fun e w' => e = .returned (.int .i64 (cutE nodes x y)) ∧ NetIs w' base b nodes qs (cutS nodes S x y) ∧ Below base w w' ∧ Moved w w' b := by
  obtain ⟨ps, h1, rfl⟩ := h
  by_cases hc : cutM nodes x y
  · rw [cutE, if_pos hc, cutS, if_pos hc]
    refine (cut_ok w base b nodes x y ps S h1 hbw hc.1 hc.2.1 hc.2.2).mono ?_; rintro e w' ⟨rfl, hn, hb⟩
    exact ⟨rfl, ⟨_, hn, rfl⟩, hb⟩
  · rw [cutE, if_neg hc, cutS, if_neg hc]
    refine (cut_bad w base b nodes x y ps S h1 hc).mono ?_; rintro e w' ⟨rfl, rfl⟩
    exact ⟨rfl, ⟨_, h1, rfl⟩, Below.refl _ _, Moved.refl _ _⟩
theorem dropm (w : World) (base b : Nat) (nodes : Int) (qs : List Q) (S : Cuts) (i : Int) (h : NetIs w base b nodes qs S) (hbw : base ≤ w.heap.size) : Calls Try.prog 14 #[.pointer (some ⟨b, 0, none⟩), .int .i64 i] w fun e w' => e = .returned (.int .i64 (takeE qs i)) ∧ NetIs w' base b nodes (takeQ qs i) S ∧ Below base w w' ∧ Moved w w' b := by
  obtain ⟨ps, h1, rfl⟩ := h
  by_cases hc : inQ (ps.map q) i
  · rw [takeE, if_pos hc, takeQ, if_pos hc]
    obtain ⟨hc1, hc2⟩ := hc
    rw [List.length_map] at hc2
    obtain ⟨k, rfl⟩ := Int.eq_ofNat_of_zero_le hc1
    refine (drop_in w base b k nodes ps S h1 hbw (by omega)).mono ?_; rintro e w' ⟨rfl, hn, hb⟩
    exact ⟨rfl, ⟨_, hn, by rw [List.eraseIdx_eq_take_drop_succ, List.eraseIdx_eq_take_drop_succ, List.map_append, List.map_take, List.map_drop]; rfl⟩, hb⟩
  · rw [takeE, if_neg hc, takeQ, if_neg hc]
    refine (drop_out w base b nodes i ps S h1 (by rwa [inQ, List.length_map] at hc)).mono ?_; rintro e w' ⟨rfl, hb⟩
    exact ⟨rfl, ⟨_, h1.below hb, rfl⟩, Below.mono hb hbw, Moved.of_below hb h1.lt⟩
/-- What Deliver hands out. -/
def Came (w : World) (base : Nat) (qs : List Q) (i : Int) (v : Value) : Prop :=
  if inQ qs i then ∃ p : Pkt, v = p.val ∧ Body w base p ∧ qs[i.toNat]? = some (q p) else v = .agg #[.int .i64 0, .int .i64 0, .slice none 0 0]
theorem deliverm (w : World) (base b : Nat) (nodes : Int) (qs : List Q) (S : Cuts) (i : Int) (h : NetIs w base b nodes qs S) (hbw : base ≤ w.heap.size) : Calls Try.prog 23 #[.pointer (some ⟨b, 0, none⟩), .int .i64 i] w fun e w' => ∃ v, e = .returned (.tuple #[v, .int .i64 (takeE qs i)]) ∧ Came w' base qs i v ∧ NetIs w' base b nodes (takeQ qs i) S ∧ Below base w w' ∧ Moved w w' b := by
  obtain ⟨ps, h1, rfl⟩ := h
  by_cases hc : inQ (ps.map q) i
  · rw [takeE, if_pos hc, takeQ, if_pos hc]
    unfold Came
    simp only [if_pos hc]
    obtain ⟨hc1, hc2⟩ := hc
    rw [List.length_map] at hc2
    obtain ⟨k, rfl⟩ := Int.eq_ofNat_of_zero_le hc1
    refine (deliver_in w base b k nodes ps S h1 hbw (by omega)).mono ?_; rintro e w' ⟨rfl, hn, hbd, hb⟩
    refine ⟨_, rfl, ⟨_, rfl, hbd, ?_⟩, ⟨_, hn, by rw [List.eraseIdx_eq_take_drop_succ, List.eraseIdx_eq_take_drop_succ, List.map_append, List.map_take, List.map_drop]; rfl⟩, hb⟩
    have hk : k < ps.length := by omega
    show (ps.map q)[k]? = _
    simp [hk]
  · rw [takeE, if_neg hc, takeQ, if_neg hc]
    unfold Came
    simp only [if_neg hc]
    refine (deliver_out w base b nodes i ps S h1 (by rwa [inQ, List.length_map] at hc)).mono ?_; rintro e w' ⟨rfl, hb⟩
    exact ⟨_, rfl, rfl, ⟨_, h1.below hb, rfl⟩, Below.mono hb hbw, Moved.of_below hb h1.lt⟩
theorem doublem (w : World) (base b : Nat) (nodes : Int) (qs : List Q) (S : Cuts) (i : Int) (h : NetIs w base b nodes qs S) (hF : Fit qs) (hbw : base ≤ w.heap.size) : Calls Try.prog 16 #[.pointer (some ⟨b, 0, none⟩), .int .i64 i] w fun e w' => e = .returned (.int .i64 (dblE qs i)) ∧ NetIs w' base b nodes (dblQ qs i) S ∧ Below base w w' ∧ Moved w w' b := by
  obtain ⟨ps, h1, rfl⟩ := h
  by_cases hc : inQ (ps.map q) i
  · rw [dblE, if_neg (not_not_intro hc), dblQ, if_neg (not_not_intro hc)]
    obtain ⟨hc1, hc2⟩ := hc
    rw [List.length_map] at hc2
    have hF2 := hF.2
    rw [List.length_map]
    by_cases hf : 256 ≤ ps.length
    · rw [if_pos hf, if_pos hf]
      refine (double_full w base b nodes i ps S h1 ⟨hc1, hc2⟩ hf).mono ?_; rintro e w' ⟨rfl, rfl⟩
      exact ⟨rfl, ⟨_, h1, rfl⟩, Below.refl _ _, Moved.refl _ _⟩
    · rw [if_neg hf, if_neg hf]
      obtain ⟨k, rfl⟩ := Int.eq_ofNat_of_zero_le hc1
      have hk : k < ps.length := by omega
      refine (double_ok w base b k nodes ps S h1 hbw hk (hF2 (q ps[k]) (List.mem_map_of_mem (List.getElem_mem hk))) (by omega)).mono ?_; rintro e w' ⟨rfl, ⟨a', c', hn, _⟩, hb⟩
      refine ⟨rfl, ⟨_, hn, ?_⟩, hb⟩
      rw [List.map_append]
      show _ = ps.map q ++ (ps.map q)[k]?.toList
      simp [hk, q]
  · rw [dblE, if_pos hc, dblQ, if_pos hc]
    refine (double_out w base b nodes i ps S h1 (by rwa [inQ, List.length_map] at hc)).mono ?_; rintro e w' ⟨rfl, rfl⟩
    exact ⟨rfl, ⟨_, h1, rfl⟩, Below.refl _ _, Moved.refl _ _⟩
/-- Send, with the packets themselves. -/
theorem sendz (w : World) (base b : Nat) (nodes : Int) (ps : List Pkt) (S : Cuts) (x y : Int) (ad : Option Addr) (l : List Nat) (k : Nat) (h1 : NetAt w base b nodes ps S) (hbw : base ≤ w.heap.size) (hn : ad = none → l.length = 0 ∧ k = 0) (hat : Lie w ad (bcells l)) :
    Calls Try.prog 11 #[.pointer (some ⟨b, 0, none⟩), .int .i64 x, .int .i64 y, .slice ad l.length k] w fun e w' => e = .returned (.int .i64 (sendE nodes (ps.map q) S x y l.length)) ∧
      (∃ ps', NetAt w' base b nodes ps' S ∧ ps'.map q = sendQ nodes (ps.map q) S x y l ∧ ∀ p ∈ ps', p ∈ ps ∨ ∀ z, p.a = some ⟨z, 0, none⟩ → w.heap.size ≤ z) ∧ Below base w w' ∧ Moved w w' b := by
  have hold : ∀ p ∈ ps, p ∈ ps ∨ ∀ z, p.a = some ⟨z, 0, none⟩ → w.heap.size ≤ z := fun p hp => .inl hp
  by_cases hm : may nodes x y l.length
  · rw [sendE, if_neg (not_not_intro hm), sendQ, if_neg (not_not_intro hm)]
    by_cases hS : pr x y ∈ S
    · rw [if_pos hS, if_pos hS]
      refine (send_cut w base b nodes x y ps S ad l.length k h1 hm.1 hm.2.1 hm.2.2 hS).mono ?_; rintro e w' ⟨rfl, hb⟩
      exact ⟨rfl, ⟨_, h1.below hb, rfl, hold⟩, Below.mono hb hbw, Moved.of_below hb h1.lt⟩
    · rw [if_neg hS, if_neg hS, List.length_map]
      by_cases hf : 256 ≤ ps.length
      · rw [if_pos hf, if_pos hf]
        refine (send_full w base b nodes x y ps S ad l.length k h1 hm.1 hm.2.1 hm.2.2 hS hf).mono ?_; rintro e w' ⟨rfl, hb⟩
        exact ⟨rfl, ⟨_, h1.below hb, rfl, hold⟩, Below.mono hb hbw, Moved.of_below hb h1.lt⟩
      · rw [if_neg hf, if_neg hf]
        refine (send_ok w base b nodes x y ps S ad l k h1 hbw hm.1 hm.2.1 hm.2.2 hS (by omega) hn hat).mono ?_; rintro e w' ⟨rfl, ⟨a', c', hn', hfr⟩, hb⟩
        refine ⟨rfl, ⟨_, hn', by rw [List.map_append]; rfl, fun p hp => ?_⟩, hb⟩
        rcases List.mem_append.1 hp with hp | hp
        · exact .inl hp
        · rw [List.mem_singleton.1 hp]; exact .inr hfr
  · rw [sendE, if_pos hm, sendQ, if_pos hm]
    refine (send_arg w base b nodes x y ps S ad l.length k h1 hm).mono ?_; rintro e w' ⟨rfl, rfl⟩
    exact ⟨rfl, ⟨_, h1, rfl, hold⟩, Below.refl _ _, Moved.refl _ _⟩
theorem sendm (w : World) (base b : Nat) (nodes : Int) (qs : List Q) (S : Cuts) (x y : Int) (ad : Option Addr) (l : List Nat) (k : Nat) (h : NetIs w base b nodes qs S) (hbw : base ≤ w.heap.size) (hn : ad = none → l.length = 0 ∧ k = 0) (hat : Lie w ad (bcells l)) :
    Calls Try.prog 11 #[.pointer (some ⟨b, 0, none⟩), .int .i64 x, .int .i64 y, .slice ad l.length k] w fun e w' => e = .returned (.int .i64 (sendE nodes qs S x y l.length)) ∧ NetIs w' base b nodes (sendQ nodes qs S x y l) S ∧ Below base w w' ∧ Moved w w' b := by
  obtain ⟨ps, h1, rfl⟩ := h
  refine (sendz w base b nodes ps S x y ad l k h1 hbw hn hat).mono ?_; rintro e w' ⟨rfl, ⟨ps', hn', he, _⟩, hb⟩
  exact ⟨rfl, ⟨_, hn', he⟩, hb⟩
theorem healq (w : World) (base b : Nat) (nodes : Int) (qs : List Q) (S : Cuts) (h : NetIs w base b nodes qs S) (hbw : base ≤ w.heap.size) : Calls Try.prog 12 #[.pointer (some ⟨b, 0, none⟩)] w fun e w' => e = .returned (.int .i64 0) ∧ NetIs w' base b nodes qs [] ∧ Below base w w' :=
  (healm w base b nodes qs S h hbw).mono fun e w' h => ⟨h.1, h.2.1, h.2.2.1⟩
theorem cutq (w : World) (base b : Nat) (nodes : Int) (qs : List Q) (S : Cuts) (x y : Int) (h : NetIs w base b nodes qs S) (hbw : base ≤ w.heap.size) : Calls Try.prog 15 #[.pointer (some ⟨b, 0, none⟩), .int .i64 x, .int .i64 y] w fun e w' => e = .returned (.int .i64 (cutE nodes x y)) ∧ NetIs w' base b nodes qs (cutS nodes S x y) ∧ Below base w w' :=
  (cutm w base b nodes qs S x y h hbw).mono fun e w' h => ⟨h.1, h.2.1, h.2.2.1⟩
theorem dropq (w : World) (base b : Nat) (nodes : Int) (qs : List Q) (S : Cuts) (i : Int) (h : NetIs w base b nodes qs S) (hbw : base ≤ w.heap.size) : Calls Try.prog 14 #[.pointer (some ⟨b, 0, none⟩), .int .i64 i] w fun e w' => e = .returned (.int .i64 (takeE qs i)) ∧ NetIs w' base b nodes (takeQ qs i) S ∧ Below base w w' :=
  (dropm w base b nodes qs S i h hbw).mono fun e w' h => ⟨h.1, h.2.1, h.2.2.1⟩
theorem deliverq (w : World) (base b : Nat) (nodes : Int) (qs : List Q) (S : Cuts) (i : Int) (h : NetIs w base b nodes qs S) (hbw : base ≤ w.heap.size) : Calls Try.prog 23 #[.pointer (some ⟨b, 0, none⟩), .int .i64 i] w fun e w' => ∃ v, e = .returned (.tuple #[v, .int .i64 (takeE qs i)]) ∧ Came w' base qs i v ∧ NetIs w' base b nodes (takeQ qs i) S ∧ Below base w w' :=
  (deliverm w base b nodes qs S i h hbw).mono fun e w' h => (by obtain ⟨v, h1, h2, h3, h4, _⟩ := h; exact ⟨v, h1, h2, h3, h4⟩)
theorem doubleq (w : World) (base b : Nat) (nodes : Int) (qs : List Q) (S : Cuts) (i : Int) (h : NetIs w base b nodes qs S) (hF : Fit qs) (hbw : base ≤ w.heap.size) : Calls Try.prog 16 #[.pointer (some ⟨b, 0, none⟩), .int .i64 i] w fun e w' => e = .returned (.int .i64 (dblE qs i)) ∧ NetIs w' base b nodes (dblQ qs i) S ∧ Below base w w' :=
  (doublem w base b nodes qs S i h hF hbw).mono fun e w' h => ⟨h.1, h.2.1, h.2.2.1⟩
theorem sendq (w : World) (base b : Nat) (nodes : Int) (qs : List Q) (S : Cuts) (x y : Int) (ad : Option Addr) (l : List Nat) (k : Nat) (h : NetIs w base b nodes qs S) (hbw : base ≤ w.heap.size) (hn : ad = none → l.length = 0 ∧ k = 0) (hat : Lie w ad (bcells l)) :
    Calls Try.prog 11 #[.pointer (some ⟨b, 0, none⟩), .int .i64 x, .int .i64 y, .slice ad l.length k] w fun e w' => e = .returned (.int .i64 (sendE nodes qs S x y l.length)) ∧ NetIs w' base b nodes (sendQ nodes qs S x y l) S ∧ Below base w w' :=
  (sendm w base b nodes qs S x y ad l k h hbw hn hat).mono fun e w' h => ⟨h.1, h.2.1, h.2.2.1⟩
end Go.Proofs.Ytnnfagdhigodbaa.netq
