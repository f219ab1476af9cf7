/-
  The keys of a map of votes: collected, and sorted.
-/
import Derived.Test.YtodoncmielfbeaaAccS
import Derived.Test.YtodoncmielfbeaaMapKit
namespace Go.Proofs.Ytodoncmielfbeaa.acck
open Go.RowKit Go.Maps Go.Sort Go.Shelf
open Go.Proofs.Ytodoncmielfbeaa.kit Go.Proofs.Ytodoncmielfbeaa.mapkit Go.Proofs.Ytodoncmielfbeaa.accs
set_option linter.unusedVariables false
set_option linter.unusedSimpArgs false
set_option maxHeartbeats 1000000
set_option maxRecDepth 100000

theorem sortsA (m : Nat) : AnyZI.SortsIn Try.prog sortedA_ren Fence.wide m :=
  ⟨fun blk off cap ss W hH hblk hsz => callsIn_wide.2 (AnyM.slices_Sort_int sortA blk off cap ss W hH hblk hsz),
   fun p cap W => callsIn_wide.2 (AnyM.slices_Sort_int_none sortA p cap W)⟩

theorem keysC (mb : Option Nat) (w : World) : Calls Try.prog 53 #[.map mb] w fun e w' => e = .returned (.func (.func 63) #[] #[.pointer (some ⟨w.heap.size, 0, none⟩)]) ∧ w' = w.alloc (.cells #[.map mb] 96) :=
  callsIn_wide.1 (AnyZI.keys_in keysA Fence.wide 5 trivial rfl mb w)

/-- A list of ints, each just if the map has it, none twice. -/
def KeysOf (f : Lit → Option Value) (ss : List Int) : Prop := ss.Nodup ∧ ∀ x, x ∈ ss ↔ (f (.int .i64 x)).isSome = true
theorem keysOf_int {w : World} {b cnt : Nat} {f : Lit → Option Value} {D : DataW Value} (ho : w.ownsMap Try.prog 3 raw b cnt D) (hs : Says D f) : (intKeys D).Nodup ∧ ∀ x, x ∈ intKeys D ↔ (f (.int .i64 x)).isSome = true := by
  obtain ⟨es, rfl, hpw, _⟩ := ho.entries (int_keyed Try.underlying3)
  obtain ⟨es', hD', hko⟩ := ho.keysOf
  obtain rfl : es = es' := by simpa using hD'
  have hk : ∀ p ∈ es, ∃ x, p.1 = .int .i64 x := fun p hp => by
    obtain ⟨v, hv⟩ := hko p hp
    obtain ⟨x, _, hx, _⟩ := Maps.keyOf_i64 Try.underlying3 hv
    exact ⟨x, hx⟩
  refine ⟨?_, fun x => ?_⟩
  · show (es.map fun p => Go.intOf p.1).Nodup
    refine List.pairwise_map.2 (hpw.imp_of_mem fun {p q} hp' hq' hne e => hne ?_)
    obtain ⟨a, ha⟩ := hk p hp'
    obtain ⟨b, hb⟩ := hk q hq'
    rw [ha, hb] at e ⊢
    exact congrArg _ e
  · rw [← hs.has, has_eq, List.any_eq_true]
    show x ∈ es.map (fun p => Go.intOf p.1) ↔ _
    rw [List.mem_map]
    constructor
    · rintro ⟨p, hp', rfl⟩
      obtain ⟨a, ha⟩ := hk p hp'
      exact ⟨p, hp', by rw [ha]; simp [Lit.sameKey, Go.intOf]⟩
    · rintro ⟨p, hp', hs⟩
      obtain ⟨a, ha⟩ := hk p hp'
      rw [ha] at hs
      exact ⟨p, hp', by rw [ha]; simpa [Lit.sameKey, Go.intOf] using hs⟩
theorem KeysOf.perm {f : Lit → Option Value} {ss ts : List Int} (h : KeysOf f ss) (hp : ts.Perm ss) : KeysOf f ts := ⟨(hp.nodup_iff).2 h.1, fun x => (hp.mem_iff).trans (h.2 x)⟩

theorem sortedC (w : World) (B b cnt : Nat) (f : Lit → Option Value) (h : MapAt w Try.prog 3 b f cnt) (hc : cnt ≤ 16) (hB : w.heap[B]? = some (.cells #[.map (some b)] 96 (0, 0))) :
    Calls Try.prog 35 #[.func (.func 63) #[] #[.pointer (some ⟨B, 0, none⟩)]] w fun e w' => ∃ (v : Value) (ss : List Int), e = .returned v ∧ KeysOf f ss ∧ ss.Pairwise (· < ·) ∧
      w'.ownsRow w.heap.size 3 1 v ss.length (ss.map encZ) ∧ Below w.heap.size w w' := by
  obtain ⟨D, ho, hn, hs⟩ := h
  have hk := keysOf_int ho hs
  obtain ⟨c0, _, z0⟩ := blk1 hB
  have hseq : SeqGives Fence.wide 2 Try.prog 63 #[.pointer (some ⟨B, 0, none⟩)] encZ (fun ss => ss.Perm (intKeys D)) (Maps.size D) w :=
    AnyZI.keys_gives (ρ := keysA_ren) { keysA with } Fence.wide _ trivial rfl (by omega) B b cnt D _ z0 c0 ho
  have cS := AnyZI.sorted_in sortedA Fence.wide 5 trivial trivial trivial trivial rfl (by omega) (sortsA _) (enters_of Try.func58 (by kernel_rfl) rfl) 63 #[.pointer (some ⟨B, 0, none⟩)] trivial (enters_of Try.func63 (by kernel_rfl) rfl) _ _ (by unfold maxLen; omega) (by omega) _ hseq
  refine (callsIn_wide.1 cS).mono ?_
  rintro e w' ⟨v, ss, rfl, hp, hrow, _, hb⟩
  have hm : (ss.mergeSort (fun x y => decide (x ≤ y))).Perm ss := List.mergeSort_perm _ _
  refine ⟨v, _, rfl, KeysOf.perm hk (hm.trans hp), ?_, by rw [List.length_mergeSort]; exact hrow, hb⟩
  have hnd : (ss.mergeSort (fun x y => decide (x ≤ y))).Nodup := (hm.trans hp).nodup_iff.2 hk.1
  have hle := List.pairwise_mergeSort (le := fun x y : Int => decide (x ≤ y)) (fun a b c h1 h2 => by simp only [decide_eq_true_eq] at *; omega) (fun a b => by simp only [Bool.or_eq_true, decide_eq_true_eq]; omega) ss
  refine (List.Pairwise.and hle hnd).imp ?_
  intro a b ⟨h1, h2⟩
  simp only [decide_eq_true_eq] at h1
  omega
theorem collectC (w : World) (B b cnt : Nat) (f : Lit → Option Value) (h : MapAt w Try.prog 3 b f cnt) (hc : cnt ≤ 16) (hB : w.heap[B]? = some (.cells #[.map (some b)] 96 (0, 0))) :
    Calls Try.prog 57 #[.func (.func 63) #[] #[.pointer (some ⟨B, 0, none⟩)]] w fun e w' => ∃ (v : Value) (ss : List Int), e = .returned v ∧ KeysOf f ss ∧
      w'.ownsRow w.heap.size 3 1 v ss.length (ss.map encZ) ∧ Below w.heap.size w w' := by
  obtain ⟨D, ho, hn, hs⟩ := h
  have hk := keysOf_int ho hs
  obtain ⟨c0, _, z0⟩ := blk1 hB
  have hseq : SeqGives Fence.wide 2 Try.prog 63 #[.pointer (some ⟨B, 0, none⟩)] encZ (fun ss => ss.Perm (intKeys D)) (Maps.size D) w :=
    AnyZI.keys_gives (ρ := keysA_ren) { keysA with } Fence.wide _ trivial rfl (by omega) B b cnt D _ z0 c0 ho
  have cS := AnyZI.collect_in (ρ := sortedA_ren) { sortedA with } Fence.wide 4 trivial trivial rfl (by omega) 63 #[.pointer (some ⟨B, 0, none⟩)] trivial (enters_of Try.func63 (by kernel_rfl) rfl) _ _ (by unfold maxLen; omega) (by omega) _ hseq
  refine (callsIn_wide.1 cS).mono ?_
  rintro e w' ⟨v, ss, rfl, hp, hrow, _, hb⟩
  exact ⟨v, ss, rfl, KeysOf.perm hk hp, hrow, hb⟩
end Go.Proofs.Ytodoncmielfbeaa.acck
