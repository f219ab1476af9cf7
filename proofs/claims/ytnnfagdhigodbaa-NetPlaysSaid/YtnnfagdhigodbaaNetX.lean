/-
  The net and the document's net, side by side in one memory.
-/
import Derived.Test.YtnnfagdhigodbaaNetP
import Derived.Test.YtnnfagdhigodbaaNetV
import Derived.Test.YtnnfagdhigodbaaNetW
namespace Go.Proofs.Ytnnfagdhigodbaa.netx
open Go.ChangeShapes Go.WideShapes Go.ChangeAt Go.RowKit Go.Shelf
open Go.Proofs.Ytnnfagdhigodbaa.kit Go.Proofs.Ytnnfagdhigodbaa.byt Go.Proofs.Ytnnfagdhigodbaa.netc Go.Proofs.Ytnnfagdhigodbaa.netg Go.Proofs.Ytnnfagdhigodbaa.nets Go.Proofs.Ytnnfagdhigodbaa.nett Go.Proofs.Ytnnfagdhigodbaa.netd Go.Proofs.Ytnnfagdhigodbaa.nete Go.Proofs.Ytnnfagdhigodbaa.netf Go.Proofs.Ytnnfagdhigodbaa.netq Go.Proofs.Ytnnfagdhigodbaa.netk Go.Proofs.Ytnnfagdhigodbaa.netm Go.Proofs.Ytnnfagdhigodbaa.netp Go.Proofs.Ytnnfagdhigodbaa.netv Go.Proofs.Ytnnfagdhigodbaa.netj Go.Proofs.Ytnnfagdhigodbaa.neth
set_option linter.unusedVariables false
set_option linter.unusedSimpArgs false
set_option maxHeartbeats 1000000
set_option maxRecDepth 100000

def RefIs (w : World) (base b : Nat) (nodes : Int) (qs : List Q) (Cs : Cuts) : Prop := ∃ rs, RefAt w base b nodes rs Cs ∧ rs.map q = qs
/-- The two say alike of who is cut. -/
def Agree (S Cs : Cuts) : Prop := ∀ x y, apartB Cs x y = true ↔ pr x y ∈ S
theorem agree_nil : Agree [] [] := fun x y => by simp [apartB]
theorem hit_iff (x y a b : Int) : hitB x y (a, b) = true ↔ pr x y = pr a b := by
  simp only [hitB, pr, Prod.mk.injEq, Bool.or_eq_true, Bool.and_eq_true, beq_iff_eq]
  omega
theorem agree_cut {S Cs : Cuts} (h : Agree S Cs) (a b : Int) : Agree (cadd S (pr a b)) (Cs ++ [(a, b)]) := by
  intro x y
  rw [apartB_snoc, Bool.or_eq_true, h x y, hit_iff, cadd]
  split
  · next hin =>
    constructor
    · rintro (h1 | h1)
      · exact h1
      · rw [h1]; exact hin
    · exact .inl
  · rw [List.mem_append, List.mem_singleton]

def zeroP : Pkt := ⟨0, 0, [], none, 0⟩
def takeP (qs : List Q) (i : Int) : Q := if inQ qs i then (qs[i.toNat]?).getD ⟨0, 0, []⟩ else ⟨0, 0, []⟩
theorem delu (w : World) (base b : Nat) (nodes : Int) (qs : List Q) (S : Cuts) (i : Int) (h : NetIs w base b nodes qs S) (hbw : base ≤ w.heap.size) : Calls Try.prog 23 #[.pointer (some ⟨b, 0, none⟩), .int .i64 i] w fun e w' => ∃ p : Pkt, e = .returned (.tuple #[p.val, .int .i64 (takeE qs i)]) ∧ Body w' base p ∧ q p = takeP qs i ∧ NetIs w' base b nodes (takeQ qs i) S ∧ Below base w w' ∧ Moved w w' b := by
  refine (deliverm w base b nodes qs S i h hbw).mono ?_; rintro e w' ⟨v, rfl, hc, hr⟩
  unfold Came at hc
  by_cases hin : inQ qs i
  · rw [if_pos hin] at hc
    obtain ⟨p, rfl, hb, hq⟩ := hc
    exact ⟨p, rfl, hb, by rw [takeP, if_pos hin, hq]; rfl, hr⟩
  · rw [if_neg hin] at hc
    subst hc
    exact ⟨zeroP, rfl, World.ownsRow_nil _ _ _ _, by rw [takeP, if_neg hin]; rfl, hr⟩
theorem rtku (w : World) (base b : Nat) (nodes : Int) (qs : List Q) (Cs : Cuts) (i : Int) (h : RefIs w base b nodes qs Cs) (hbw : base ≤ w.heap.size) (hF : qs.length ≤ 256) : Calls Try.prog 31 #[.pointer (some ⟨b, 0, none⟩), .int .i64 i] w fun e w' => ∃ p : Pkt, e = .returned (.tuple #[p.val, .int .i64 (takeE qs i)]) ∧ Body w' base p ∧ q p = takeP qs i ∧ RefIs w' base b nodes (takeQ qs i) Cs ∧ Below base w w' ∧ Moved w w' b := by
  obtain ⟨rs, h1, rfl⟩ := h
  rw [List.length_map] at hF
  by_cases hin : inQ (rs.map q) i
  · rw [takeE, if_pos hin, takeQ, if_pos hin, takeP, if_pos hin]
    obtain ⟨hc1, hc2⟩ := hin
    rw [List.length_map] at hc2
    obtain ⟨k, rfl⟩ := Int.eq_ofNat_of_zero_le hc1
    have hk : k < rs.length := by omega
    refine (rtake_in w base b k nodes rs Cs h1 hbw hk hF).mono ?_; rintro e w' ⟨rfl, hn, hbd, hb⟩
    refine ⟨_, rfl, hbd, ?_, ⟨_, hn, by rw [List.eraseIdx_eq_take_drop_succ, List.eraseIdx_eq_take_drop_succ, List.map_append, List.map_take, List.map_drop]; rfl⟩, hb⟩
    show _ = ((rs.map q)[k]?).getD _
    simp [hk]
  · rw [takeE, if_neg hin, takeQ, if_neg hin, takeP, if_neg hin]
    refine (rtake_out w base b nodes i rs Cs h1 (by rwa [inQ, List.length_map] at hin)).mono ?_; rintro e w' ⟨rfl, hb⟩
    exact ⟨zeroP, rfl, World.ownsRow_nil _ _ _ _, rfl, ⟨_, h1.below hb, rfl⟩, Below.mono hb hbw, Moved.of_below hb h1.lt⟩
theorem rdblu (w : World) (base b : Nat) (nodes : Int) (qs : List Q) (Cs : Cuts) (i : Int) (h : RefIs w base b nodes qs Cs) (hbw : base ≤ w.heap.size) : Calls Try.prog 32 #[.pointer (some ⟨b, 0, none⟩), .int .i64 i] w fun e w' => e = .returned (.int .i64 (dblE qs i)) ∧ RefIs w' base b nodes (dblQ qs i) Cs ∧ Below base w w' ∧ Moved w w' b := by
  obtain ⟨rs, h1, rfl⟩ := h
  by_cases hc : inQ (rs.map q) i
  · rw [dblE, if_neg (not_not_intro hc), dblQ, if_neg (not_not_intro hc)]
    obtain ⟨hc1, hc2⟩ := hc
    rw [List.length_map] at hc2
    rw [List.length_map]
    by_cases hf : 256 ≤ rs.length
    · rw [if_pos hf, if_pos hf]
      refine (rdouble_full w base b nodes i rs Cs h1 ⟨hc1, hc2⟩ hf).mono ?_; rintro e w' ⟨rfl, rfl⟩
      exact ⟨rfl, ⟨_, h1, rfl⟩, Below.refl _ _, Moved.refl _ _⟩
    · rw [if_neg hf, if_neg hf]
      obtain ⟨k, rfl⟩ := Int.eq_ofNat_of_zero_le hc1
      have hk : k < rs.length := by omega
      refine (rdouble_ok w base b k nodes rs Cs h1 hbw hk (by omega)).mono ?_; rintro e w' ⟨rfl, hn, hb⟩
      refine ⟨rfl, ⟨_, hn, ?_⟩, hb⟩
      rw [List.map_append]
      show _ = rs.map q ++ (rs.map q)[k]?.toList
      simp [hk]
  · rw [dblE, if_pos hc, dblQ, if_pos hc]
    refine (rdouble_out w base b nodes i rs Cs h1 (by rwa [inQ, List.length_map] at hc)).mono ?_; rintro e w' ⟨rfl, rfl⟩
    exact ⟨rfl, ⟨_, h1, rfl⟩, Below.refl _ _, Moved.refl _ _⟩
def rcutS (nodes : Int) (Cs : Cuts) (x y : Int) : Cuts := if cutM nodes x y then Cs ++ [(x, y)] else Cs
theorem rcutS_len (nodes : Int) (Cs : Cuts) (x y : Int) : (rcutS nodes Cs x y).length ≤ Cs.length + 1 := by
  unfold rcutS; split <;> simp
theorem agree_cutS {S Cs : Cuts} (h : Agree S Cs) (m a b : Int) : Agree (cutS m S a b) (rcutS m Cs a b) := by
  unfold cutS rcutS
  split
  · exact agree_cut h a b
  · exact h
theorem rcutu (w : World) (base b : Nat) (nodes : Int) (qs : List Q) (Cs : Cuts) (x y : Int) (h : RefIs w base b nodes qs Cs) (hbw : base ≤ w.heap.size) (hlen : Cs.length ≤ 3518437208884) : Calls Try.prog 33 #[.pointer (some ⟨b, 0, none⟩), .int .i64 x, .int .i64 y] w fun e w' => e = .returned (.int .i64 (cutE nodes x y)) ∧ RefIs w' base b nodes qs (rcutS nodes Cs x y) ∧ Below base w w' ∧ Moved w w' b := by
  obtain ⟨rs, h1, rfl⟩ := h
  by_cases hc : cutM nodes x y
  · rw [cutE, if_pos hc, rcutS, if_pos hc]
    refine (rcut_ok w base b nodes x y rs Cs h1 hbw hc.1 hc.2.1 hc.2.2 hlen).mono ?_; rintro e w' ⟨rfl, hn, hb⟩
    exact ⟨rfl, ⟨_, hn, rfl⟩, hb⟩
  · rw [cutE, if_neg hc, rcutS, if_neg hc]
    refine (rcut_bad w base b nodes x y rs Cs h1 hc).mono ?_; rintro e w' ⟨rfl, rfl⟩
    exact ⟨rfl, ⟨_, h1, rfl⟩, Below.refl _ _, Moved.refl _ _⟩
theorem rsendz (w : World) (base b : Nat) (nodes : Int) (rs : List Pkt) (S Cs : Cuts) (x y : Int) (ad : Option Addr) (l : List Nat) (k : Nat) (h1 : RefAt w base b nodes rs Cs) (hag : Agree S Cs) (hbw : base ≤ w.heap.size) (hn : ad = none → l.length = 0 ∧ k = 0) (hat : Lie w ad (bcells l)) :
    Calls Try.prog 35 #[.pointer (some ⟨b, 0, none⟩), .int .i64 x, .int .i64 y, .slice ad l.length k] w fun e w' => e = .returned (.int .i64 (sendE nodes (rs.map q) S x y l.length)) ∧
      (∃ rs', RefAt w' base b nodes rs' Cs ∧ rs'.map q = sendQ nodes (rs.map q) S x y l ∧ ∀ p ∈ rs', p ∈ rs ∨ ∀ z, p.a = some ⟨z, 0, none⟩ → w.heap.size ≤ z) ∧ Below base w w' ∧ Moved w w' b := by
  have hold : ∀ p ∈ rs, p ∈ rs ∨ ∀ z, p.a = some ⟨z, 0, none⟩ → w.heap.size ≤ z := fun p hp => .inl hp
  by_cases hm : may nodes x y l.length
  · rw [sendE, if_neg (not_not_intro hm), sendQ, if_neg (not_not_intro hm)]
    by_cases hS : pr x y ∈ S
    · rw [if_pos hS, if_pos hS]
      refine (rsend_cut w base b nodes x y rs Cs ad l.length k h1 hm ((hag x y).2 hS)).mono ?_; rintro e w' ⟨rfl, rfl⟩
      exact ⟨rfl, ⟨_, h1, rfl, hold⟩, Below.refl _ _, Moved.refl _ _⟩
    · rw [if_neg hS, if_neg hS, List.length_map]
      have hap : apartB Cs x y = false := by
        cases h : apartB Cs x y with
        | false => rfl
        | true => exact absurd ((hag x y).1 h) hS
      by_cases hf : 256 ≤ rs.length
      · rw [if_pos hf, if_pos hf]
        refine (rsend_full w base b nodes x y rs Cs ad l.length k h1 hm hap hf).mono ?_; rintro e w' ⟨rfl, rfl⟩
        exact ⟨rfl, ⟨_, h1, rfl, hold⟩, Below.refl _ _, Moved.refl _ _⟩
      · rw [if_neg hf, if_neg hf]
        refine (rsend_ok w base b nodes x y rs Cs ad l k h1 hbw hm hap (by omega) hn hat).mono ?_; rintro e w' ⟨rfl, ⟨a', c', hn', hfr⟩, hb⟩
        refine ⟨rfl, ⟨_, hn', by rw [List.map_append]; rfl, fun p hp => ?_⟩, hb⟩
        rcases List.mem_append.1 hp with hp | hp
        · exact .inl hp
        · rw [List.mem_singleton.1 hp]; exact .inr hfr
  · rw [sendE, if_pos hm, sendQ, if_pos hm]
    refine (rsend_arg w base b nodes x y rs Cs ad l.length k h1 hm).mono ?_; rintro e w' ⟨rfl, rfl⟩
    exact ⟨rfl, ⟨_, h1, rfl, hold⟩, Below.refl _ _, Moved.refl _ _⟩

/-- The two nets in one memory; neither lies where the other does. -/
structure Two (w wr : World) (bn br : Nat) (m : Int) (qs : List Q) (S Cs : Cuts) : Prop where
  net : NetIs wr w.heap.size bn m qs S
  ref : RefIs wr w.heap.size br m qs Cs
  dis : ∀ k, Foot wr bn k → ¬ Foot wr br k
  below : Below w.heap.size w wr
theorem refis_below {w w' : World} {base b : Nat} {m : Int} {qs : List Q} {Cs : Cuts} (h : RefIs w base b m qs Cs) (hb : Below w.heap.size w w') : RefIs w' base b m qs Cs := by
  obtain ⟨rs, h1, h2⟩ := h
  exact ⟨rs, h1.below hb, h2⟩
theorem net_lt {w : World} {base b : Nat} {m : Int} {qs : List Q} {S : Cuts} (h : NetIs w base b m qs S) {k : Nat} (hf : Foot w b k) : k < w.heap.size ∧ ∀ cur : Array Value, w.heap[k]? ≠ some (Obj.cells cur 5 (0, 0)) := by
  obtain ⟨ps, h1, _⟩ := h
  exact foot_lt h1 hf
theorem ref_lt {w : World} {base b : Nat} {m : Int} {qs : List Q} {S : Cuts} (h : RefIs w base b m qs S) {k : Nat} (hf : Foot w b k) : k < w.heap.size ∧ ∀ cur : Array Value, w.heap[k]? ≠ some (Obj.cells cur 5 (0, 0)) := by
  obtain ⟨ps, h1, _⟩ := h
  exact ref_foot h1 hf
theorem Two.old {w wr w' : World} {bn br : Nat} {m : Int} {qs : List Q} {S Cs : Cuts} (h : Two w wr bn br m qs S Cs) (hb : Below wr.heap.size wr w') : Two w w' bn br m qs S Cs := by
  have e1 := hb.block bn (is_lt h.net)
  have e2 := hb.block br (ref_lt h.ref (.inl rfl)).1
  exact ⟨h.net.below hb, refis_below h.ref hb, fun k h1 h2 => h.dis k ((foot_same e1 k).1 h1) ((foot_same e2 k).1 h2), below_step h.below hb⟩
/-- Half of the two: one of them has gone on. -/
structure Half (w wr : World) (bn br : Nat) (m : Int) (qs qr : List Q) (S Cs : Cuts) : Prop where
  net : NetIs wr w.heap.size bn m qs S
  ref : RefIs wr w.heap.size br m qr Cs
  dis : ∀ k, Foot wr bn k → ¬ Foot wr br k
  below : Below w.heap.size w wr
theorem Half.two {w wr : World} {bn br : Nat} {m : Int} {qs : List Q} {S Cs : Cuts} (h : Half w wr bn br m qs qs S Cs) : Two w wr bn br m qs S Cs := ⟨h.net, h.ref, h.dis, h.below⟩
theorem Two.half {w wr : World} {bn br : Nat} {m : Int} {qs : List Q} {S Cs : Cuts} (h : Two w wr bn br m qs S Cs) : Half w wr bn br m qs qs S Cs := ⟨h.net, h.ref, h.dis, h.below⟩
theorem Half.old {w wr w' : World} {bn br : Nat} {m : Int} {qs qr : List Q} {S Cs : Cuts} (h : Half w wr bn br m qs qr S Cs) (hb : Below wr.heap.size wr w') : Half w w' bn br m qs qr S Cs := by
  have e1 := hb.block bn (is_lt h.net)
  have e2 := hb.block br (ref_lt h.ref (.inl rfl)).1
  exact ⟨h.net.below hb, refis_below h.ref hb, fun k h1 h2 => h.dis k ((foot_same e1 k).1 h1) ((foot_same e2 k).1 h2), below_step h.below hb⟩
/-- The net's call. -/
theorem Half.netop {w wr w' : World} {bn br : Nat} {m : Int} {qs qs' qr : List Q} {S S' Cs : Cuts} (h : Half w wr bn br m qs qr S Cs) (hN : NetIs w' w.heap.size bn m qs' S') (hb : Below w.heap.size wr w') (hm : Moved wr w' bn) :
    Half w w' bn br m qs' qr S' Cs ∧ (∀ (g : Nat) (cur : Array Value), wr.heap[g]? = some (Obj.cells cur 5 (0, 0)) → w'.heap[g]? = wr.heap[g]?) ∧ (∀ x, x < wr.heap.size → ¬ Foot wr bn x → ¬ Foot wr br x → w'.heap[x]? = wr.heap[x]? ∧ ¬ Foot w' bn x ∧ ¬ Foot w' br x) := by
  have hu8 : ∀ (g : Nat) (cur : Array Value), wr.heap[g]? = some (Obj.cells cur 5 (0, 0)) → w'.heap[g]? = wr.heap[g]? := fun g cur hg => hm.kept g (blk hg).2.2 (fun hf => (net_lt h.net hf).2 cur hg)
  have hrk : ∀ k, Foot wr br k → w'.heap[k]? = wr.heap[k]? := fun k hf => hm.kept k (ref_lt h.ref hf).1 (fun h1 => h.dis k h1 hf)
  have hbr := foot_same (hrk br (.inl rfl))
  obtain ⟨rs, hr1, hr2⟩ := h.ref
  refine ⟨⟨hN, ⟨rs, hr1.keep hrk hu8, hr2⟩, fun k h1 h2 => ?_, h.below.trans hb⟩, hu8, fun x hx h1 h2 => ⟨hm.kept x hx h1, fun hf => ?_, fun hf => h2 ((hbr x).1 hf)⟩⟩
  · have h2' := (hbr k).1 h2
    rcases hm.foot k h1 with h3 | h3
    · exact h.dis k h3 h2'
    · have := (ref_lt h.ref h2').1; omega
  · rcases hm.foot x hf with h3 | h3
    · exact h1 h3
    · omega
/-- The document's call. -/
theorem Half.refop {w wr w' : World} {bn br : Nat} {m : Int} {qs qr qr' : List Q} {S Cs Cs' : Cuts} (h : Half w wr bn br m qs qr S Cs) (hN : RefIs w' w.heap.size br m qr' Cs') (hb : Below w.heap.size wr w') (hm : Moved wr w' br) :
    Half w w' bn br m qs qr' S Cs' ∧ (∀ (g : Nat) (cur : Array Value), wr.heap[g]? = some (Obj.cells cur 5 (0, 0)) → w'.heap[g]? = wr.heap[g]?) ∧ (∀ x, x < wr.heap.size → ¬ Foot wr bn x → ¬ Foot wr br x → w'.heap[x]? = wr.heap[x]? ∧ ¬ Foot w' bn x ∧ ¬ Foot w' br x) := by
  have hu8 : ∀ (g : Nat) (cur : Array Value), wr.heap[g]? = some (Obj.cells cur 5 (0, 0)) → w'.heap[g]? = wr.heap[g]? := fun g cur hg => hm.kept g (blk hg).2.2 (fun hf => (ref_lt h.ref hf).2 cur hg)
  have hnk : ∀ k, Foot wr bn k → w'.heap[k]? = wr.heap[k]? := fun k hf => hm.kept k (net_lt h.net hf).1 (fun h1 => h.dis k hf h1)
  have hbn := foot_same (hnk bn (.inl rfl))
  obtain ⟨ps, hn1, hn2⟩ := h.net
  refine ⟨⟨⟨ps, NetAt.keep hn1 hnk (fun p hp g hg => ?_), hn2⟩, hN, fun k h1 h2 => ?_, h.below.trans hb⟩, hu8, fun x hx h1 h2 => ⟨hm.kept x hx h2, fun hf => h1 ((hbn x).1 hf), fun hf => ?_⟩⟩
  · obtain ⟨cur, hcur⟩ := own_heap (hn1.bodies p hp) g hg
    exact hu8 g cur hcur
  · have h1' := (hbn k).1 h1
    rcases hm.foot k h2 with h3 | h3
    · exact h.dis k h1' h3
    · have := (net_lt h.net h1').1; omega
  · rcases hm.foot x hf with h3 | h3
    · exact h2 h3
    · omega
/-- A block that neither of the two lies in. -/
theorem Half.new {w wr : World} {bn br : Nat} {m : Int} {qs qr : List Q} {S Cs : Cuts} (h : Half w wr bn br m qs qr S Cs) (o : Obj) : ¬ Foot (wr.alloc o) bn wr.heap.size ∧ ¬ Foot (wr.alloc o) br wr.heap.size := by
  have hb := below_new1 wr o
  refine ⟨fun hf => ?_, fun hf => ?_⟩
  · have := (net_lt h.net ((foot_same (hb.block bn (is_lt h.net)) _).1 hf)).1; omega
  · have := (ref_lt h.ref ((foot_same (hb.block br (ref_lt h.ref (.inl rfl)).1) _).1 hf)).1; omega
theorem out_below {w wr w' : World} {bn br : Nat} {m : Int} {qs qr : List Q} {S Cs : Cuts} (h : Half w wr bn br m qs qr S Cs) (hb : Below wr.heap.size wr w') {x : Nat} (h1 : ¬ Foot wr bn x ∧ ¬ Foot wr br x) : ¬ Foot w' bn x ∧ ¬ Foot w' br x :=
  ⟨fun hf => h1.1 ((foot_same (hb.block bn (is_lt h.net)) _).1 hf), fun hf => h1.2 ((foot_same (hb.block br (ref_lt h.ref (.inl rfl)).1) _).1 hf)⟩
theorem body_keep {w w' : World} {base : Nat} {p : Pkt} (h : Body w base p) (hk : ∀ (g : Nat) (cur : Array Value), w.heap[g]? = some (Obj.cells cur 5 (0, 0)) → w'.heap[g]? = w.heap[g]?) : Body w' base p := by
  refine own_kept h (fun g hg => ?_)
  obtain ⟨cur, hcur⟩ := own_heap h g hg
  exact hk g cur hcur
end Go.Proofs.Ytnnfagdhigodbaa.netx
