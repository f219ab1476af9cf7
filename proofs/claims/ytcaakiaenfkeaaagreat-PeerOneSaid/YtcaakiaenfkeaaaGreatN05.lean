/-
  The shelf's layings at this dump: slices.SortFunc at promises, slices.Sorted(maps.Keys(m)) (printed by the kit's lay-plain.mjs; the namespace is this seat's).
-/
import Derived.Shelf.SlGeneric
import Derived.Shelf.SlLaysF
import Derived.Shelf.SlLaysF0
import Derived.Shelf.SlIterI.Nil
import Derived.Shelf.SortM.Plain
import Derived.Shelf.SortM.SortNone
import Derived.Test.YtcaakiaenfkeaaaGreatProg
import Derived.Test.YtcaakiaenfkeaaaGreatN02
import Derived.Test.YtcaakiaenfkeaaaGreatN04
import Derived.Maps.AppendAt
import Derived.Lib.SliceRun
namespace Go.Proofs.YtcaakiaenfkeaaaGreat.chsh
open Go.Shelf
def sortP_ren : Go.Shelf.Ren := ⟨fun | 6 => 81 | 15 => 79 | 14 => 95 | 28 => 92 | 29 => 93 | 20 => 102 | 21 => 103 | 22 => 104 | 23 => 105 | 24 => 106 | 25 => 107 | 26 => 108 | 27 => 109 | 46 => 111 | 47 => 97 | 48 => 98 | 49 => 112 | 50 => 113 | 57 => 114 | n => n, fun | 22 => 113 | 24 => 115 | 25 => 155 | 3 => 3 | 39 => 160 | 0 => 0 | 53 => 80 | 55 => 175 | 4 => 4 | 46 => 166 | 45 => 165 | 50 => 171 | 5 => 5 | 9 => 9 | 66 => 178 | 70 => 182 | 76 => 189 | 77 => 190 | n => n, fun | n => n⟩
theorem sortP : Go.Proofs.SlLaysF0.n6 Tryz.prog sortP_ren := {
  mixed := by kernel_rfl
  f6 := ⟨Tryz.f81.name, by decide, Tryz.func81.trans (congrArg some (by kernel_rfl))⟩
  f14 := ⟨Tryz.f95.name, by decide, Tryz.func95.trans (congrArg some (by kernel_rfl))⟩
  f15 := Tryz.func79.trans (congrArg some (by kernel_rfl))
  f20 := ⟨Tryz.f102.name, by decide, Tryz.func102.trans (congrArg some (by kernel_rfl))⟩
  f21 := ⟨Tryz.f103.name, by decide, Tryz.func103.trans (congrArg some (by kernel_rfl))⟩
  f22 := ⟨Tryz.f104.name, by decide, Tryz.func104.trans (congrArg some (by kernel_rfl))⟩
  f23 := ⟨Tryz.f105.name, by decide, Tryz.func105.trans (congrArg some (by kernel_rfl))⟩
  f24 := ⟨Tryz.f106.name, by decide, Tryz.func106.trans (congrArg some (by kernel_rfl))⟩
  f25 := ⟨Tryz.f107.name, by decide, Tryz.func107.trans (congrArg some (by kernel_rfl))⟩
  f26 := ⟨Tryz.f108.name, by decide, Tryz.func108.trans (congrArg some (by kernel_rfl))⟩
  f27 := ⟨Tryz.f109.name, by decide, Tryz.func109.trans (congrArg some (by kernel_rfl))⟩
  f28 := Tryz.func92.trans (congrArg some (by kernel_rfl))
  f29 := Tryz.func93.trans (congrArg some (by kernel_rfl))
  f46 := ⟨Tryz.f111.name, by decide, Tryz.func111.trans (congrArg some (by kernel_rfl))⟩
  f47 := Tryz.func97.trans (congrArg some (by kernel_rfl))
  f48 := Tryz.func98.trans (congrArg some (by kernel_rfl))
  f49 := ⟨Tryz.f112.name, by decide, Tryz.func112.trans (congrArg some (by kernel_rfl))⟩
  f50 := ⟨Tryz.f113.name, by decide, Tryz.func113.trans (congrArg some (by kernel_rfl))⟩
  f57 := ⟨Tryz.f114.name, by decide, Tryz.func114.trans (congrArg some (by kernel_rfl))⟩
  t0 := Tryz.underlying0
  a0 := Tryz.isAgg0
  z0 := Tryz.sizeOf0
  v0 := Tryz.zeroValue0
  t3 := Tryz.underlying3
  a3 := Tryz.isAgg3
  z3 := Tryz.sizeOf3
  v3 := Tryz.zeroValue3
  t4 := Tryz.underlying4
  a4 := Tryz.isAgg4
  z4 := Tryz.sizeOf4
  v4 := Tryz.zeroValue4
  t5 := Tryz.underlying5
  a5 := Tryz.isAgg5
  z5 := Tryz.sizeOf5
  v5 := Tryz.zeroValue5
  t9 := Tryz.underlying9
  a9 := Tryz.isAgg9
  z9 := Tryz.sizeOf9
  v9 := Tryz.zeroValue9
  t22 := Tryz.underlying113
  a22 := Tryz.isAgg113
  z22 := Tryz.sizeOf113
  v22 := Tryz.zeroValue113
  t25 := Tryz.underlying155
  a25 := Tryz.isAgg155
  z25 := Tryz.sizeOf155
  v25 := Tryz.zeroValue155
  t39 := Tryz.underlying160
  a39 := Tryz.isAgg160
  z39 := Tryz.sizeOf160
  v39 := Tryz.zeroValue160
  t45 := Tryz.underlying165
  a45 := Tryz.isAgg165
  z45 := Tryz.sizeOf165
  v45 := Tryz.zeroValue165
  t46 := Tryz.underlying166
  a46 := Tryz.isAgg166
  z46 := Tryz.sizeOf166
  v46 := Tryz.zeroValue166
  t50 := Tryz.underlying171
  a50 := Tryz.isAgg171
  z50 := Tryz.sizeOf171
  v50 := Tryz.zeroValue171
  t53 := Tryz.underlying80
  a53 := Tryz.isAgg80
  z53 := Tryz.sizeOf80
  v53 := Tryz.zeroValue80
  t55 := Tryz.underlying175
  a55 := Tryz.isAgg175
  z55 := Tryz.sizeOf175
  v55 := Tryz.zeroValue175
  t66 := Tryz.underlying178
  a66 := Tryz.isAgg178
  z66 := Tryz.sizeOf178
  v66 := Tryz.zeroValue178
  t70 := Tryz.underlying182
  a70 := Tryz.isAgg182
  z70 := Tryz.sizeOf182
  v70 := Tryz.zeroValue182
  t76 := Tryz.underlying189
  a76 := Tryz.isAgg189
  z76 := Tryz.sizeOf189
  v76 := Tryz.zeroValue189
  t77 := Tryz.underlying190
  a77 := Tryz.isAgg190
  z77 := Tryz.sizeOf190
  v77 := Tryz.zeroValue190 }
def keysV_ren : Go.Shelf.Ren := ⟨fun | 7 => 58 | 10 => 70 | n => n, fun | 23 => 103 | 26 => 3 | 3 => 45 | 28 => 133 | 0 => 0 | 27 => 132 | 33 => 98 | 4 => 4 | n => n, fun | n => n⟩
theorem keysV : Go.Proofs.SlLaysZI.n7 Tryz.prog keysV_ren := {
  mixed := by kernel_rfl
  f7 := ⟨Tryz.f58.name, by decide, Tryz.func58.trans (congrArg some (by kernel_rfl))⟩
  f10 := ⟨Tryz.f70.name, by decide, Tryz.func70.trans (congrArg some (by kernel_rfl))⟩
  t0 := Tryz.underlying0
  a0 := Tryz.isAgg0
  z0 := Tryz.sizeOf0
  v0 := Tryz.zeroValue0
  t4 := Tryz.underlying4
  a4 := Tryz.isAgg4
  z4 := Tryz.sizeOf4
  v4 := Tryz.zeroValue4
  t23 := Tryz.underlying103
  a23 := Tryz.isAgg103
  z23 := Tryz.sizeOf103
  v23 := Tryz.zeroValue103
  t26 := Tryz.underlying3
  a26 := Tryz.isAgg3
  z26 := Tryz.sizeOf3
  v26 := Tryz.zeroValue3
  t27 := Tryz.underlying132
  a27 := Tryz.isAgg132
  z27 := Tryz.sizeOf132
  v27 := Tryz.zeroValue132
  t28 := Tryz.underlying133
  a28 := Tryz.isAgg133
  z28 := Tryz.sizeOf133
  v28 := Tryz.zeroValue133
  t33 := Tryz.underlying98
  a33 := Tryz.isAgg98
  z33 := Tryz.sizeOf98
  v33 := Tryz.zeroValue98 }
def sortedC_ren : Go.Shelf.Ren := ⟨fun | 6 => 57 | 8 => 68 | 9 => 69 | 11 => 77 | 13 => 79 | 12 => 78 | 23 => 92 | 24 => 93 | 14 => 83 | 15 => 84 | 16 => 85 | 17 => 86 | 18 => 87 | 19 => 88 | 20 => 89 | 21 => 90 | 22 => 91 | 25 => 96 | 26 => 97 | 27 => 98 | 28 => 99 | 29 => 100 | 30 => 101 | 31 => 110 | n => n, fun | 26 => 3 | 28 => 133 | 24 => 94 | 0 => 0 | 3 => 3 | 37 => 160 | 48 => 80 | 50 => 175 | 4 => 4 | 40 => 166 | 39 => 165 | 45 => 171 | 5 => 5 | 9 => 9 | 51 => 178 | 55 => 182 | 57 => 189 | 58 => 190 | 33 => 98 | n => n, fun | n => n⟩
theorem sortedC : Go.Proofs.SlLaysZI.n6 Tryz.prog sortedC_ren := {
  mixed := by kernel_rfl
  f6 := ⟨Tryz.f57.name, by decide, Tryz.func57.trans (congrArg some (by kernel_rfl))⟩
  f8 := ⟨Tryz.f68.name, by decide, Tryz.func68.trans (congrArg some (by kernel_rfl))⟩
  f11 := ⟨Tryz.f77.name, by decide, Tryz.func77.trans (congrArg some (by kernel_rfl))⟩
  t0 := Tryz.underlying0
  a0 := Tryz.isAgg0
  z0 := Tryz.sizeOf0
  v0 := Tryz.zeroValue0
  t24 := Tryz.underlying94
  a24 := Tryz.isAgg94
  z24 := Tryz.sizeOf94
  v24 := Tryz.zeroValue94
  t26 := Tryz.underlying3
  a26 := Tryz.isAgg3
  z26 := Tryz.sizeOf3
  v26 := Tryz.zeroValue3
  t28 := Tryz.underlying133
  a28 := Tryz.isAgg133
  z28 := Tryz.sizeOf133
  v28 := Tryz.zeroValue133
  i26 := by kernel_rfl }
def sortC_ren : Go.Shelf.Ren := ⟨fun | 5 => 69 | 8 => 79 | 7 => 78 | 19 => 92 | 20 => 93 | 10 => 83 | 11 => 84 | 12 => 85 | 13 => 86 | 14 => 87 | 15 => 88 | 16 => 89 | 17 => 90 | 18 => 91 | 30 => 96 | 31 => 97 | 32 => 98 | 33 => 99 | 34 => 100 | 35 => 101 | 40 => 110 | n => n, fun | 23 => 94 | 25 => 3 | 3 => 3 | 32 => 160 | 22 => 94 | 0 => 0 | 44 => 80 | 46 => 175 | 4 => 4 | 36 => 166 | 35 => 165 | 41 => 171 | 5 => 5 | 9 => 9 | 53 => 178 | 57 => 182 | 63 => 189 | 64 => 190 | n => n, fun | n => n⟩
theorem sortC : Go.Proofs.SlLaysM.n5 Tryz.prog sortC_ren := {
  mixed := by kernel_rfl
  f5 := ⟨Tryz.f69.name, by decide, Tryz.func69.trans (congrArg some (by kernel_rfl))⟩
  f7 := ⟨Tryz.f78.name, by decide, Tryz.func78.trans (congrArg some (by kernel_rfl))⟩
  f8 := Tryz.func79.trans (congrArg some (by kernel_rfl))
  f10 := ⟨Tryz.f83.name, by decide, Tryz.func83.trans (congrArg some (by kernel_rfl))⟩
  f11 := ⟨Tryz.f84.name, by decide, Tryz.func84.trans (congrArg some (by kernel_rfl))⟩
  f12 := ⟨Tryz.f85.name, by decide, Tryz.func85.trans (congrArg some (by kernel_rfl))⟩
  f13 := ⟨Tryz.f86.name, by decide, Tryz.func86.trans (congrArg some (by kernel_rfl))⟩
  f14 := ⟨Tryz.f87.name, by decide, Tryz.func87.trans (congrArg some (by kernel_rfl))⟩
  f15 := ⟨Tryz.f88.name, by decide, Tryz.func88.trans (congrArg some (by kernel_rfl))⟩
  f16 := ⟨Tryz.f89.name, by decide, Tryz.func89.trans (congrArg some (by kernel_rfl))⟩
  f17 := ⟨Tryz.f90.name, by decide, Tryz.func90.trans (congrArg some (by kernel_rfl))⟩
  f18 := ⟨Tryz.f91.name, by decide, Tryz.func91.trans (congrArg some (by kernel_rfl))⟩
  f19 := Tryz.func92.trans (congrArg some (by kernel_rfl))
  f20 := Tryz.func93.trans (congrArg some (by kernel_rfl))
  f30 := ⟨Tryz.f96.name, by decide, Tryz.func96.trans (congrArg some (by kernel_rfl))⟩
  f31 := Tryz.func97.trans (congrArg some (by kernel_rfl))
  f32 := Tryz.func98.trans (congrArg some (by kernel_rfl))
  f33 := ⟨Tryz.f99.name, by decide, Tryz.func99.trans (congrArg some (by kernel_rfl))⟩
  f34 := ⟨Tryz.f100.name, by decide, Tryz.func100.trans (congrArg some (by kernel_rfl))⟩
  f35 := ⟨Tryz.f101.name, by decide, Tryz.func101.trans (congrArg some (by kernel_rfl))⟩
  f40 := ⟨Tryz.f110.name, by decide, Tryz.func110.trans (congrArg some (by kernel_rfl))⟩
  t0 := Tryz.underlying0
  a0 := Tryz.isAgg0
  z0 := Tryz.sizeOf0
  v0 := Tryz.zeroValue0
  t3 := Tryz.underlying3
  a3 := Tryz.isAgg3
  z3 := Tryz.sizeOf3
  v3 := Tryz.zeroValue3
  t4 := Tryz.underlying4
  a4 := Tryz.isAgg4
  z4 := Tryz.sizeOf4
  v4 := Tryz.zeroValue4
  t5 := Tryz.underlying5
  a5 := Tryz.isAgg5
  z5 := Tryz.sizeOf5
  v5 := Tryz.zeroValue5
  t9 := Tryz.underlying9
  a9 := Tryz.isAgg9
  z9 := Tryz.sizeOf9
  v9 := Tryz.zeroValue9
  t22 := Tryz.underlying94
  a22 := Tryz.isAgg94
  z22 := Tryz.sizeOf94
  v22 := Tryz.zeroValue94
  t23 := Tryz.underlying94
  a23 := Tryz.isAgg94
  z23 := Tryz.sizeOf94
  v23 := Tryz.zeroValue94
  t25 := Tryz.underlying3
  a25 := Tryz.isAgg3
  z25 := Tryz.sizeOf3
  v25 := Tryz.zeroValue3
  t32 := Tryz.underlying160
  a32 := Tryz.isAgg160
  z32 := Tryz.sizeOf160
  v32 := Tryz.zeroValue160
  t35 := Tryz.underlying165
  a35 := Tryz.isAgg165
  z35 := Tryz.sizeOf165
  v35 := Tryz.zeroValue165
  t36 := Tryz.underlying166
  a36 := Tryz.isAgg166
  z36 := Tryz.sizeOf166
  v36 := Tryz.zeroValue166
  t41 := Tryz.underlying171
  a41 := Tryz.isAgg171
  z41 := Tryz.sizeOf171
  v41 := Tryz.zeroValue171
  t44 := Tryz.underlying80
  a44 := Tryz.isAgg80
  z44 := Tryz.sizeOf80
  v44 := Tryz.zeroValue80
  t46 := Tryz.underlying175
  a46 := Tryz.isAgg175
  z46 := Tryz.sizeOf175
  v46 := Tryz.zeroValue175
  t53 := Tryz.underlying178
  a53 := Tryz.isAgg178
  z53 := Tryz.sizeOf178
  v53 := Tryz.zeroValue178
  t57 := Tryz.underlying182
  a57 := Tryz.isAgg182
  z57 := Tryz.sizeOf182
  v57 := Tryz.zeroValue182
  t63 := Tryz.underlying189
  a63 := Tryz.isAgg189
  z63 := Tryz.sizeOf189
  v63 := Tryz.zeroValue189
  t64 := Tryz.underlying190
  a64 := Tryz.isAgg190
  z64 := Tryz.sizeOf190
  v64 := Tryz.zeroValue190 }
end Go.Proofs.YtcaakiaenfkeaaaGreat.chsh
/-
  The layings that accept's texts want, out of this seat's.
-/
namespace Go.Proofs.YtcaakiaenfkeaaaGreat.accs
open Go.Shelf
def keysA_ren : Go.Shelf.Ren := Go.Proofs.YtcaakiaenfkeaaaGreat.chsh.keysV_ren
theorem keysA : Go.Proofs.SlLaysZI.n7 Tryz.prog keysA_ren := Go.Proofs.YtcaakiaenfkeaaaGreat.chsh.keysV
def sortedA_ren : Go.Shelf.Ren := Go.Proofs.YtcaakiaenfkeaaaGreat.chsh.sortedC_ren
theorem sortedA : Go.Proofs.SlLaysZI.n6 Tryz.prog sortedA_ren := Go.Proofs.YtcaakiaenfkeaaaGreat.chsh.sortedC
def sortA_ren : Go.Shelf.Ren := Go.Proofs.YtcaakiaenfkeaaaGreat.chsh.sortC_ren
theorem sortA : Go.Proofs.SlLaysM.n5 Tryz.prog sortA_ren := Go.Proofs.YtcaakiaenfkeaaaGreat.chsh.sortC
end Go.Proofs.YtcaakiaenfkeaaaGreat.accs
/-
  The keys of a map of votes: collected, and sorted.
-/
namespace Go.Proofs.YtcaakiaenfkeaaaGreat.acck
open Go.RowKit Go.Maps Go.Sort Go.Shelf
open Go.Proofs.YtcaakiaenfkeaaaGreat.kit Go.Proofs.YtcaakiaenfkeaaaGreat.mapkit Go.Proofs.YtcaakiaenfkeaaaGreat.accs
set_option linter.unusedVariables false
set_option linter.unusedSimpArgs false
set_option maxHeartbeats 1000000
set_option maxRecDepth 100000

theorem sortsA (m : Nat) : AnyZI.SortsIn Tryz.prog sortedA_ren Fence.wide m :=
  ⟨fun blk off cap ss W hH hblk hsz => callsIn_wide.2 (AnyM.slices_Sort_int sortA blk off cap ss W hH hblk hsz),
   fun p cap W => callsIn_wide.2 (AnyM.slices_Sort_int_none sortA p cap W)⟩

theorem keysC (mb : Option Nat) (w : World) : Calls Tryz.prog 58 #[.map mb] w fun e w' => e = .returned (.func (.func 70) #[] #[.pointer (some ⟨w.heap.size, 0, none⟩)]) ∧ w' = w.alloc (.cells #[.map mb] 103) :=
  callsIn_wide.1 (AnyZI.keys_in keysA Fence.wide 5 trivial rfl mb w)

/-- A list of ints, each just if the map has it, none twice. -/
def KeysOf (f : Lit → Option Value) (ss : List Int) : Prop := ss.Nodup ∧ ∀ x, x ∈ ss ↔ (f (.int .i64 x)).isSome = true
theorem keysOf_int {w : World} {b cnt : Nat} {f : Lit → Option Value} {D : DataW Value} (ho : w.ownsMap Tryz.prog 3 raw b cnt D) (hs : Says D f) : (intKeys D).Nodup ∧ ∀ x, x ∈ intKeys D ↔ (f (.int .i64 x)).isSome = true := by
  obtain ⟨es, rfl, hpw, _⟩ := ho.entries (int_keyed Tryz.underlying3)
  obtain ⟨es', hD', hko⟩ := ho.keysOf
  obtain rfl : es = es' := by simpa using hD'
  have hk : ∀ p ∈ es, ∃ x, p.1 = .int .i64 x := fun p hp => by
    obtain ⟨v, hv⟩ := hko p hp
    obtain ⟨x, _, hx, _⟩ := Maps.keyOf_i64 Tryz.underlying3 hv
    exact ⟨x, hx⟩
  refine ⟨?_, fun x => ?_⟩
  · show (es.map fun p => Go.intOf p.1).Nodup
    refine List.pairwise_map.2 (hpw.imp_of_mem fun {p q} hp' hq' hne e => hne ?_)
    obtain ⟨a, ha⟩ := hk p hp'
    obtain ⟨b, hb⟩ := hk q hq'
    rw [ha, hb] at e ⊢
    exact congrArg _ e
  · rw [← hs.has, has_eq, List.any_eq_true]
    show x ∈ es.map (fun p => Go.intOf p.1) ↔ _
    rw [List.mem_map]
    constructor
    · rintro ⟨p, hp', rfl⟩
      obtain ⟨a, ha⟩ := hk p hp'
      exact ⟨p, hp', by rw [ha]; simp [Lit.sameKey, Go.intOf]⟩
    · rintro ⟨p, hp', hs⟩
      obtain ⟨a, ha⟩ := hk p hp'
      rw [ha] at hs
      exact ⟨p, hp', by rw [ha]; simpa [Lit.sameKey, Go.intOf] using hs⟩
theorem KeysOf.perm {f : Lit → Option Value} {ss ts : List Int} (h : KeysOf f ss) (hp : ts.Perm ss) : KeysOf f ts := ⟨(hp.nodup_iff).2 h.1, fun x => (hp.mem_iff).trans (h.2 x)⟩

theorem sortedC (w : World) (B b cnt : Nat) (f : Lit → Option Value) (h : MapAt w Tryz.prog 3 b f cnt) (hc : cnt ≤ 16) (hB : w.heap[B]? = some (.cells #[.map (some b)] 103 (0, 0))) :
    Calls Tryz.prog 57 #[.func (.func 70) #[] #[.pointer (some ⟨B, 0, none⟩)]] w fun e w' => ∃ (v : Value) (ss : List Int), e = .returned v ∧ KeysOf f ss ∧ ss.Pairwise (· < ·) ∧
      w'.ownsRow w.heap.size 3 1 v ss.length (ss.map encZ) ∧ Below w.heap.size w w' := by
  obtain ⟨D, ho, hn, hs⟩ := h
  have hk := keysOf_int ho hs
  obtain ⟨c0, _, z0⟩ := blk1 hB
  have hseq : SeqGives Fence.wide 2 Tryz.prog 70 #[.pointer (some ⟨B, 0, none⟩)] encZ (fun ss => ss.Perm (intKeys D)) (Maps.size D) w :=
    AnyZI.keys_gives (ρ := keysA_ren) { keysA with } Fence.wide _ trivial rfl (by omega) B b cnt D _ z0 c0 ho
  have cS := AnyZI.sorted_in sortedA Fence.wide 5 trivial trivial trivial trivial rfl (by omega) (sortsA _) (enters_of Tryz.func69 (by kernel_rfl) rfl) 70 #[.pointer (some ⟨B, 0, none⟩)] trivial (enters_of Tryz.func70 (by kernel_rfl) rfl) _ _ (by unfold maxLen; omega) (by omega) _ hseq
  refine (callsIn_wide.1 cS).mono ?_
  rintro e w' ⟨v, ss, rfl, hp, hrow, _, hb⟩
  have hm : (ss.mergeSort (fun x y => decide (x ≤ y))).Perm ss := List.mergeSort_perm _ _
  refine ⟨v, _, rfl, KeysOf.perm hk (hm.trans hp), ?_, by rw [List.length_mergeSort]; exact hrow, hb⟩
  have hnd : (ss.mergeSort (fun x y => decide (x ≤ y))).Nodup := (hm.trans hp).nodup_iff.2 hk.1
  have hle := List.pairwise_mergeSort (le := fun x y : Int => decide (x ≤ y)) (fun a b c h1 h2 => by simp only [decide_eq_true_eq] at *; omega) (fun a b => by simp only [Bool.or_eq_true, decide_eq_true_eq]; omega) ss
  refine (List.Pairwise.and hle hnd).imp ?_
  intro a b ⟨h1, h2⟩
  simp only [decide_eq_true_eq] at h1
  omega
theorem collectC (w : World) (B b cnt : Nat) (f : Lit → Option Value) (h : MapAt w Tryz.prog 3 b f cnt) (hc : cnt ≤ 16) (hB : w.heap[B]? = some (.cells #[.map (some b)] 103 (0, 0))) :
    Calls Tryz.prog 68 #[.func (.func 70) #[] #[.pointer (some ⟨B, 0, none⟩)]] w fun e w' => ∃ (v : Value) (ss : List Int), e = .returned v ∧ KeysOf f ss ∧
      w'.ownsRow w.heap.size 3 1 v ss.length (ss.map encZ) ∧ Below w.heap.size w w' := by
  obtain ⟨D, ho, hn, hs⟩ := h
  have hk := keysOf_int ho hs
  obtain ⟨c0, _, z0⟩ := blk1 hB
  have hseq : SeqGives Fence.wide 2 Tryz.prog 70 #[.pointer (some ⟨B, 0, none⟩)] encZ (fun ss => ss.Perm (intKeys D)) (Maps.size D) w :=
    AnyZI.keys_gives (ρ := keysA_ren) { keysA with } Fence.wide _ trivial rfl (by omega) B b cnt D _ z0 c0 ho
  have cS := AnyZI.collect_in (ρ := sortedA_ren) { sortedA with } Fence.wide 4 trivial trivial rfl (by omega) 70 #[.pointer (some ⟨B, 0, none⟩)] trivial (enters_of Tryz.func70 (by kernel_rfl) rfl) _ _ (by unfold maxLen; omega) (by omega) _ hseq
  refine (callsIn_wide.1 cS).mono ?_
  rintro e w' ⟨v, ss, rfl, hp, hrow, _, hb⟩
  exact ⟨v, ss, rfl, KeysOf.perm hk hp, hrow, hb⟩
end Go.Proofs.YtcaakiaenfkeaaaGreat.acck
/-
  An acceptor's Votes.
-/
namespace Go.Proofs.YtcaakiaenfkeaaaGreat.accc
open Go.ChangeShapes Go.WideShapes Go.ChangeAt Go.RowKit
open Go.Proofs.YtcaakiaenfkeaaaGreat.kit Go.Proofs.YtcaakiaenfkeaaaGreat.mapkit Go.Proofs.YtcaakiaenfkeaaaGreat.byt Go.Proofs.YtcaakiaenfkeaaaGreat.own Go.Proofs.YtcaakiaenfkeaaaGreat.accd Go.Proofs.YtcaakiaenfkeaaaGreat.acca Go.Proofs.YtcaakiaenfkeaaaGreat.accb Go.Proofs.YtcaakiaenfkeaaaGreat.acck
set_option linter.unusedVariables false
set_option linter.unusedSimpArgs false
set_option maxHeartbeats 1000000
set_option maxRecDepth 100000

theorem infoVote : (Tryz.prog.info? 45).map (fun i => (i.zero, i.size, i.bytes)) = some (some (.agg #[.int .i64 0, .int .i64 0, .int .i64 0, .slice none 0 0]), 4, 48) := by kernel_rfl
theorem vcells_append (xs ys : List Vt) : vcells (xs ++ ys) = vcells xs ++ vcells ys := by simp [vcells]
theorem vcells_len (xs : List Vt) : (vcells xs).length = xs.length * 4 := by
  induction xs with
  | nil => rfl
  | cons x xs ih => simp only [vcells, List.flatMap_cons, List.length_append, List.length_cons] at ih ⊢; rw [ih]; simp [Vt.cells]; omega
theorem lie_new4 (w : World) (a b c d : Value) (T : TypeId) : Lie (w.alloc (.cells #[a, b, c, d] T)) (some ⟨w.heap.size, 0, none⟩) [a, b, c, d] := by
  refine .inr ⟨_, 0, rfl, by rw [size_new]; omega, fun i hi => ?_⟩
  have hb := kit.blk (hp_alloc_new w (.cells #[a, b, c, d] T))
  rw [Nat.zero_add, hb.1]
  match i, hi with
  | 0, _ => rfl
  | 1, _ => rfl
  | 2, _ => rfl
  | 3, _ => rfl
/-- The list that Votes tells: memory of its own, the values too. -/
def Told (w w' : World) (v : Value) (ls : List V4) : Prop :=
  ∃ (a : Option Addr) (c : Nat) (xs : List Vt), v = .slice a xs.length c ∧ xs.map lv = ls ∧ w'.ownsRow w.heap.size 45 4 (.slice a xs.length c) xs.length (vcells xs) ∧ ∀ x ∈ xs, accd.Body w' w.heap.size x
structure Coll (w wr : World) (vs : List Vt) (k : Nat) (v : Value) : Prop where
  ps : ∃ (a : Option Addr) (c : Nat) (xs : List Vt), v = .slice a k c ∧ xs.length = k ∧ xs.map lv = (vs.map lv).take k ∧ wr.ownsRow w.heap.size 45 4 (.slice a k c) k (vcells xs) ∧ ∀ x ∈ xs, accd.Body wr w.heap.size x
  below : Below w.heap.size w wr
theorem Coll.step {w wr W1 : World} {vs xs : List Vt} {k : Nat} {a : Option Addr} {c : Nat} {x : Vt} {o : Obj} {v' : Value} (hb : Below w.heap.size w wr) (hl : xs.length = k) (hxs : xs.map lv = (vs.map lv).take k)
    (hrow : wr.ownsRow w.heap.size 45 4 (.slice a k c) k (vcells xs)) (hbd : ∀ y ∈ xs, accd.Body wr w.heap.size y) (hbx : accd.Body wr w.heap.size x) (hq : (vs.map lv)[k]? = some (lv x))
    (hg : (wr.alloc o).grownBy W1 (Value.slice a k c).ownBlock) (hr : W1.ownsRow w.heap.size 45 4 v' (k + 1) (vcells xs ++ x.cells)) : Coll w W1 vs (k + 1) v' := by
  obtain ⟨a', c', rfl⟩ := own_shape hr
  have hbody : ∀ y : Vt, accd.Body wr w.heap.size y → accd.Body W1 w.heap.size y := by
    intro y hy
    refine own_kept hy (fun g hgp => ?_)
    obtain ⟨cur, hcur⟩ := own_heap hy g hgp
    have hgs := own_from hy g hgp
    refine (hg.block g (by rw [size_new]; omega) (fun e => ?_)).trans (hp_alloc_old hgs.2)
    exact own_ne hrow hcur (by decide) g (own_block hrow g e.symm) rfl
  refine ⟨⟨a', c', xs ++ [x], rfl, by simp [hl], ?_, ?_, fun y hy => ?_⟩, ?_⟩
  · rw [List.map_append, hxs, List.take_add_one, hq]
    rfl
  · rw [vcells_append]
    have e : vcells [x] = x.cells := by simp [vcells]
    rw [e]; exact hr
  · rcases List.mem_append.1 hy with hy | hy
    · exact hbody y (hbd y hy)
    · rw [List.mem_singleton.1 hy]; exact hbody x hbx
  · refine (hb.trans (Below.mono (below_new1 wr o) hb.size)).grown hg (by rw [size_new]; have := hb.size; omega) (fun j hj => (own_from hrow j (own_block hrow j hj)).1)
theorem look_get {vs : List Vt} (ho : Ord vs) {k : Nat} (hk : k < vs.length) : accd.look vs (.int .i64 vs[k].s) = some vs[k].val := by
  show (vs.find? (fun v => v.s == vs[k].s)).map Vt.val = _
  have h : vs.find? (fun v => v.s == vs[k].s) = some vs[k] := by
    induction vs generalizing k with
    | nil => simp at hk
    | cons u vs ih =>
      have hu := List.pairwise_cons.1 ho
      cases k with
      | zero => simp
      | succ k =>
        have hk' : k < vs.length := by simpa using hk
        have := hu.1 vs[k] (List.getElem_mem hk')
        rw [List.find?_cons]
        have e : (u.s == vs[k].s) = false := by simp; omega
        simp only [List.getElem_cons_succ, e]
        exact ih hu.2 hk'
  rw [h]; rfl
theorem look_some {vs : List Vt} {x : Int} : (accd.look vs (.int .i64 x)).isSome = true ↔ x ∈ vs.map (·.s) := by
  show ((vs.find? (fun v => v.s == x)).map Vt.val).isSome = true ↔ _
  rw [Option.isSome_map, List.find?_isSome]
  simp
/-- The keys, sorted, are the votes' slots. -/
theorem keys_are {vs : List Vt} (ho : Ord vs) {ss : List Int} (h : KeysOf (accd.look vs) ss) (hs : ss.Pairwise (· < ·)) : ss = vs.map (·.s) := by
  have hm : (vs.map (·.s)).Pairwise (· < ·) := List.pairwise_map.2 ho
  have hnd : (vs.map (·.s)).Nodup := hm.imp (fun h => by omega)
  have hp : ss.Perm (vs.map (·.s)) := (List.perm_ext_iff_of_nodup h.1 hnd).2 (fun x => by rw [h.2 x, look_some])
  exact List.Perm.eq_of_pairwise (le := (· < ·)) (fun a b _ _ h1 h2 => by omega) hs hm hp
theorem ints_cell {w : World} {base g c : Nat} {ss : List Int} (h : w.ownsRow base 3 1 (.slice (some ⟨g, 0, none⟩) ss.length c) ss.length (ss.map encZ)) {k : Nat} (hk : k < ss.length) : w.cell? ⟨g, k, none⟩ = some (.int .i64 ss[k]) := by
  rcases h.2 with ⟨hz, _⟩ | ⟨g', c', cur, e', hg, hh, hc, hm, hsz, hcur⟩
  · simp at hz
  · simp only [Value.slice.injEq, Option.some.injEq, Addr.mk.injEq, and_true, true_and] at e'
    obtain ⟨rfl, _⟩ := e'
    rw [(kit.blk hh).1]
    have h1 : (cur.toList.take (ss.length * 1))[k]? = (ss.map encZ)[k]? := by rw [hcur]
    rw [List.getElem?_take] at h1
    simpa [hk] using h1

theorem votes_at (w : World) (base b mb : Nat) (r n first : Int) (vs : List Vt) (h : AccAt w base b mb r n first vs) :
    Calls Tryz.prog 42 #[.pointer (some ⟨b, 0, none⟩)] w fun e w' => ∃ v, e = .returned v ∧ Told w w' v (vs.map lv) ∧ Below w.heap.size w w' := by
  obtain ⟨c0, c1, c2, c3, cz⟩ := blk4 h.blk
  obtain ⟨j0, hj, hy0, hy1, hy2⟩ := info_parts infoVote
  have hK := keysC (some mb) w
  obtain ⟨w1, hw1⟩ : ∃ w1 : World, w1 = w.alloc (.cells #[.map (some mb)] 103) := ⟨_, rfl⟩
  have hb1 : Below w.heap.size w w1 := by rw [hw1]; exact below_new1 _ _
  have hs1 : w1.heap.size = w.heap.size + 1 := by rw [hw1, size_new]
  have hS := sortedC w1 w.heap.size mb vs.length _ ((h.below hb1).map) h.len (by rw [hw1]; exact hp_alloc_new _ _)
  have HH := Lib.hid h
  have HK := Lib.hid hK
  have HS := Lib.hid hS
  have HB1 := Lib.hid hb1
  have HW := Lib.hid hw1
  have hlen := h.len
  have hone := h.one
  clear h hK hS hb1 hw1
  go_enter Tryz.func42, Tryz.ntmps42
  go_wp2_with fail
  refine HK.out.mono ?_; rintro e w' ⟨rfl, rfl⟩
  rw [← HW.out]
  go_wp2_with fail
  refine HS.out.mono ?_; rintro e w2 ⟨v2, ss, rfl, hko, hsr, hrow, hb2⟩
  obtain rfl := keys_are HH.out.ord hko hsr
  obtain ⟨a2, c2', rfl⟩ := own_shape hrow
  rw [List.length_map] at hrow
  have hb02 := below_step HB1.out hb2
  have HROW := Lib.hid hrow
  have HB2 := Lib.hid hb02
  have hsz2 := hb02.size
  clear hko hsr hrow hb2 hb02 HK HS c0 c1 c2 c3 cz
  go_wp2_with fail
  go_loopw [3, 15] (fun l i wr => ∃ k : Nat, k ≤ vs.length ∧ i = .int .i64 k ∧ Hid (Coll w2 wr vs k l)) (fun _ i _ => vs.length - (RowKit.intOf i).toNat)
  case atStart => exact ⟨0, Nat.zero_le _, rfl, ⟨⟨none, 0, [], rfl, rfl, rfl, World.ownsRow_nil _ _ _ _, by simp⟩, Below.refl _ _⟩⟩
  case round =>
    obtain ⟨k, hk, rfl, hC⟩ := hrel
    by_cases hlt : k < vs.length
    · obtain ⟨⟨a, c, xs, rfl, hxl, hxs, hr, hbd⟩, hB⟩ := hC.out
      have hA := HH.out.below (below_step HB2.out hB)
      obtain ⟨c0, c1, c2, c3, cz⟩ := blk4 hA.blk
      obtain ⟨g2, rfl⟩ := own_ptr HROW.out (by omega)
      have hi := ints_cell (by rw [List.length_map]; exact own_below HROW.out hB) (k := k) (by rw [List.length_map]; exact hlt)
      rw [List.getElem_map] at hi
      have hrg := hA.rng _ (List.getElem_mem hlt)
      have hlk := hA.map.run_look keyedI Tryz.underlying103 (Tryz.zeroValue45 wr) (key_int (s := vs[k].s) (by omega) (by omega))
      rw [look_get hA.ord hlt] at hlk
      have hfit := hA.fit _ (List.getElem_mem hlt)
      have hcp := copied_b wr vs[k] (body_rd (hA.bodies _ (List.getElem_mem hlt)) (by omega))
      have hq : (vs.map lv)[k]? = some (lv vs[k]) := by simp [hlt]
      obtain ⟨x, hx⟩ : ∃ x, x = vs[k] := ⟨_, rfl⟩
      rw [← hx] at hi hlk hcp hq hrg
      simp only [Option.getD_some, Vt.val] at hlk
      have HCP := Lib.hid hcp
      have HQ := Lib.hid hq
      have HXS := Lib.hid hxs
      have HR := Lib.hid hr
      have HBD := Lib.hid hbd
      have HB := Lib.hid hB
      clear hcp hq hxs hr hbd hB hx hA hC
      go_wp2_with fail
      refine HCP.out.mono ?_; rintro e w4 ⟨a4, c4, rfl, hbx, hb4⟩
      have hsz4 := HB.out.size
      have HB4 := Lib.hid (below_step HB.out hb4)
      have HR4 := Lib.hid (own_below HR.out hb4)
      have HBD4 := Lib.hid (fun y hy => own_below (HBD.out y hy) hb4)
      have HBX := Lib.hid (own_mono hbx hsz4 : accd.Body w4 w2.heap.size ⟨x.s, x.r, x.n, x.l, a4, c4⟩)
      have hsz5 := hb4.size
      obtain ⟨e3, -⟩ : w4.cell? ⟨b, 3, none⟩ = some (.map (some mb)) ∧ True := ⟨cell_step c3 hb4, trivial⟩
      have ei := cell_step hi hb4
      clear hbx hb4 HR HBD HCP c0 c1 c2 c3 cz hi hlk
      go_wp2_with (at_builtin; refine wpl_append rfl (.tmp 19) (.tmp 27) 29 rfl w2.heap.size 45 j0 _ 4 48 Tryz.underlying29 hj hy0 hy1 hy2 rfl (by decide) _ k (vcells xs) rfl (HR4.out.alloc _) (some ⟨w4.heap.size, 0, none⟩) 1 1 [.int .i64 x.s, .int .i64 x.r, .int .i64 x.n, .slice a4 x.l.length c4] rfl (by simp) rfl (lie_new4 _ _ _ _ _ _) (by simp [Value.oneCell']) (by unfold maxLen; omega) (by omega) (by rw [size_new]; omega) ?_; intro v5 w5 hown hgr; have HC5 := Lib.hid (Coll.step (x := ⟨x.s, x.r, x.n, x.l, a4, c4⟩) HB4.out hxl HXS.out HR4.out HBD4.out HBX.out HQ.out hgr hown); clear hown hgr)
      go_wp2_with fail
      go_roundw
      case rel => exact ⟨k + 1, by omega, by go_num, HC5⟩
      case measure => simp [RowKit.intOf]; omega
    · obtain rfl : k = vs.length := by omega
      obtain ⟨⟨a, c, xs, rfl, hxl, hxs, hr, hbd⟩, hB⟩ := hC.out
      rw [List.take_of_length_le (by simp)] at hxs
      rw [← hxl] at hr
      have HT := Lib.hid (show Told w wr (.slice a xs.length c) (vs.map lv) from ⟨a, c, xs, rfl, hxs, own_mono hr hsz2, fun y hy => own_mono (hbd y hy) hsz2⟩)
      have HBW := Lib.hid (below_step HB2.out hB)
      rw [hxl] at HT
      clear hxs hr hbd hB hC
      go_wp2_with fail
      go_ret
      exact ⟨_, rfl, HT.out, HBW.out⟩
end Go.Proofs.YtcaakiaenfkeaaaGreat.accc
/-
  An acceptor's Votes, First and New in data form; what is past a slot.
-/
namespace Go.Proofs.YtcaakiaenfkeaaaGreat.acce
open Go.ChangeShapes Go.WideShapes Go.ChangeAt Go.RowKit
open Go.Proofs.YtcaakiaenfkeaaaGreat.kit Go.Proofs.YtcaakiaenfkeaaaGreat.mapkit Go.Proofs.YtcaakiaenfkeaaaGreat.byt Go.Proofs.YtcaakiaenfkeaaaGreat.own Go.Proofs.YtcaakiaenfkeaaaGreat.accd Go.Proofs.YtcaakiaenfkeaaaGreat.acca Go.Proofs.YtcaakiaenfkeaaaGreat.accb Go.Proofs.YtcaakiaenfkeaaaGreat.acck Go.Proofs.YtcaakiaenfkeaaaGreat.accc
set_option linter.unusedVariables false
set_option linter.unusedSimpArgs false
set_option maxHeartbeats 1000000
set_option maxRecDepth 100000

def fgt (first d : Int) : Prop := first < d ∧ d ≤ 1099511627776
instance (first d : Int) : Decidable (fgt first d) := inferInstanceAs (Decidable (_ ∧ _))
def from4 (vs : List V4) (d : Int) : List V4 := vs.filter (fun v => decide (d ≤ v.s))
def forgetS (A : AS) (d : Int) : AS := if fgt A.first d then ⟨A.r, A.n, d, from4 A.vs d⟩ else A
def forgetE (A : AS) (d : Int) : Int := if fgt A.first d then (A.vs.length : Int) - (from4 A.vs d).length else 0
/-- What is left when the keys ts have been looked at. -/
def past (vs : List Vt) (d : Int) (ts : List Int) : List Vt := vs.filter (fun v => !(decide (v.s < d) && ts.contains v.s))
theorem past_nil (vs : List Vt) (d : Int) : past vs d [] = vs := by simp [past]
theorem past_step (vs : List Vt) (d : Int) (ts : List Int) (s : Int) : past vs d (ts ++ [s]) = if s < d then del (past vs d ts) s else past vs d ts := by
  by_cases h : s < d
  · rw [if_pos h, del, past, past, List.filter_filter]
    congr 1
    funext v
    by_cases hv : v.s = s
    · simp [hv, h]
    · simp [hv]
  · rw [if_neg h, past, past]
    refine List.filter_congr (fun v _ => ?_)
    by_cases hv : v.s = s
    · simp [hv, h]
    · simp [hv]
theorem past_all {vs : List Vt} {d : Int} {ss : List Int} (h : KeysOf (accd.look vs) ss) : past vs d ss = vs.filter (fun v => decide (d ≤ v.s)) := by
  refine List.filter_congr (fun v hv => ?_)
  have : v.s ∈ ss := (h.2 v.s).2 (look_some.2 (List.mem_map_of_mem hv))
  have h2 : ss.contains v.s = true := by simpa using this
  rw [h2, Bool.and_true]
  by_cases hd : v.s < d
  · simp [hd]
  · simp [hd]; omega
theorem past_ord {vs : List Vt} (h : Ord vs) (d : Int) (ts : List Int) : Ord (past vs d ts) := List.Pairwise.filter _ h

theorem from_lv (vs : List Vt) (d : Int) : (vs.filter (fun v => decide (d ≤ v.s))).map lv = from4 (vs.map lv) d := by
  rw [from4, List.filter_map]
  rfl
theorem votes_ok (w : World) (base b mb : Nat) (A : AS) (h : AccIs w base b mb A) :
    Calls Tryz.prog 42 #[.pointer (some ⟨b, 0, none⟩)] w fun e w' => ∃ v, e = .returned v ∧ accc.Told w w' v A.vs ∧ Below w.heap.size w w' := by
  obtain ⟨vs, h1, h2⟩ := h
  rw [← h2]
  exact votes_at w base b mb _ _ _ vs h1
def startS : AS := ⟨0, 0, 1, []⟩
end Go.Proofs.YtcaakiaenfkeaaaGreat.acce
/-
  slices.IndexFunc and slices.DeleteFunc at votes, for the closure of Prepare.
-/
namespace Go.Proofs.YtcaakiaenfkeaaaGreat.accf
open Go.ChangeShapes Go.WideShapes Go.ChangeAt Go.RowKit
open Go.Proofs.YtcaakiaenfkeaaaGreat.kit Go.Proofs.YtcaakiaenfkeaaaGreat.mapkit Go.Proofs.YtcaakiaenfkeaaaGreat.byt Go.Proofs.YtcaakiaenfkeaaaGreat.own Go.Proofs.YtcaakiaenfkeaaaGreat.accd Go.Proofs.YtcaakiaenfkeaaaGreat.acca Go.Proofs.YtcaakiaenfkeaaaGreat.accb Go.Proofs.YtcaakiaenfkeaaaGreat.acck Go.Proofs.YtcaakiaenfkeaaaGreat.accc Go.Proofs.YtcaakiaenfkeaaaGreat.acce
set_option linter.unusedVariables false
set_option linter.unusedSimpArgs false
set_option maxHeartbeats 1000000
set_option maxRecDepth 100000

theorem clos_any (w : World) (cb : Nat) (d s r n : Int) (a : Option Addr) (l c : Nat) (hc : w.cell? ⟨cb, 0, none⟩ = some (.int .i64 d)) (hz : cb < w.heap.size) :
    Calls Tryz.prog 43 #[.agg #[.int .i64 s, .int .i64 r, .int .i64 n, .slice a l c], .pointer (some ⟨cb, 0, none⟩)] w fun e w' => e = .returned (.bool (decide (s < d))) ∧ Below w.heap.size w w' := by
  go_enter Tryz.func43, Tryz.ntmps43
  go_wp2_with fail
  go_ret
  exact ⟨rfl, below_new1 _ _⟩
theorem vt_cells {w : World} {base g c : Nat} {xs : List Vt} (h : w.ownsRow base 45 4 (.slice (some ⟨g, 0, none⟩) xs.length c) xs.length (vcells xs)) {i : Nat} (hi : i < xs.length) :
    w.cell? ⟨g, i * 4, none⟩ = some (.int .i64 xs[i].s) ∧ w.cell? ⟨g, i * 4 + 1, none⟩ = some (.int .i64 xs[i].r) ∧ w.cell? ⟨g, i * 4 + 2, none⟩ = some (.int .i64 xs[i].n) ∧ w.cell? ⟨g, i * 4 + 3, none⟩ = some (.slice xs[i].a xs[i].l.length xs[i].c) := by
  rcases h.2 with ⟨hz, _⟩ | ⟨g', c', cur, e', hg, hh, hc, hm, hsz, hcur⟩
  · simp at hz
  · simp only [Value.slice.injEq, Option.some.injEq, Addr.mk.injEq, and_true, true_and] at e'
    obtain ⟨rfl, _⟩ := e'
    have hget : ∀ j, j < 4 → cur[i * 4 + j]? = (Vt.cells xs[i])[j]? := by
      intro j hj
      have h1 : (cur.toList.take (xs.length * 4))[i * 4 + j]? = (vcells xs)[i * 4 + j]? := by rw [hcur]
      rw [List.getElem?_take, if_pos (by omega), Array.getElem?_toList] at h1
      rw [h1]
      have e : xs = xs.take i ++ xs[i] :: xs.drop (i + 1) := by rw [← List.drop_eq_getElem_cons hi, List.take_append_drop]
      have hl : (vcells (xs.take i)).length = i * 4 := by rw [vcells_len, List.length_take, Nat.min_eq_left (by omega)]
      have e2 : vcells xs = vcells (xs.take i) ++ (Vt.cells xs[i] ++ vcells (xs.drop (i + 1))) := by
        conv => lhs; rw [e]
        rw [vcells_append]
        rfl
      rw [e2, List.getElem?_append_right (by omega), hl, show i * 4 + j - i * 4 = j by omega, List.getElem?_append_left (by simp [Vt.cells]; omega)]
    have hb := (kit.blk hh).1
    refine ⟨?_, ?_, ?_, ?_⟩
    · rw [hb, show i * 4 = i * 4 + 0 by omega, hget 0 (by omega)]; rfl
    · rw [hb, hget 1 (by omega)]; rfl
    · rw [hb, hget 2 (by omega)]; rfl
    · rw [hb, hget 3 (by omega)]; rfl
/-- The first of a list below d. -/
def idx (xs : List Vt) (d : Int) : Int := match xs.findIdx? (fun v => decide (v.s < d)) with | some i => (i : Int) | none => -1
theorem index_any (w : World) (base cb : Nat) (d : Int) (a : Option Addr) (c : Nat) (xs : List Vt) (hlen : xs.length ≤ 16) (hr : w.ownsRow base 45 4 (.slice a xs.length c) xs.length (vcells xs)) (hcb : w.heap[cb]? = some (.cells #[.int .i64 d] 3 (0, 0))) :
    Calls Tryz.prog 56 #[.slice a xs.length c, .func (.func 43) #[] #[.pointer (some ⟨cb, 0, none⟩)]] w fun e w' => e = .returned (.int .i64 (idx xs d)) ∧ Below w.heap.size w w' := by
  have HR := Lib.hid hr
  have HCB := Lib.hid hcb
  clear hr hcb
  go_enter Tryz.func56, Tryz.ntmps56
  go_wp2_with fail
  go_loopw [8] (fun i wr => ∃ k : Nat, k ≤ xs.length ∧ i = .int .i64 k ∧ (∀ j (hj : j < xs.length), j < k → d ≤ xs[j].s) ∧ Hid (Below w.heap.size w wr)) (fun i _ => xs.length - (RowKit.intOf i).toNat)
  case atStart => exact ⟨0, Nat.zero_le _, rfl, by omega, Below.refl _ _⟩
  case round =>
    obtain ⟨k, hk, rfl, hno, hB⟩ := hrel
    by_cases hlt : k < xs.length
    · obtain ⟨g, rfl⟩ := own_ptr HR.out (by omega)
      obtain ⟨q0, q1, q2, q3⟩ := vt_cells (own_below HR.out hB.out) hlt
      obtain ⟨d0, d1, dz⟩ := blk1 (hp_step HCB.out hB.out)
      have hcl := clos_any wr cb d xs[k].s xs[k].r xs[k].n xs[k].a xs[k].l.length xs[k].c d0 dz
      have hgi : ∀ (v : Vt), v = xs[k] → xs[k] = v := fun v h => h.symm
      by_cases hd : xs[k].s < d
      · rw [decide_eq_true hd] at hcl
        have hix : idx xs d = k := by
          have h : xs.findIdx? (fun v => decide (v.s < d)) = some k := by
            rw [List.findIdx?_eq_some_iff_getElem]
            exact ⟨hlt, by simpa using hd, fun j hj => by have := hno j (by omega) hj; simpa using this⟩
          rw [idx, h]
        obtain ⟨x, hx⟩ : ∃ x, x = xs[k] := ⟨_, rfl⟩
        rw [← hx] at q0 q1 q2 q3 hcl
        have HCL := Lib.hid hcl
        have HIX := Lib.hid hix
        clear hcl hix hno hgi hx hd
        go_wp2_with fail
        refine HCL.out.mono ?_; rintro e w4 ⟨rfl, hb4⟩
        have HB4 := Lib.hid (below_step hB.out hb4)
        clear hb4 HCL
        go_wp2_with fail
        go_ret
        exact ⟨by rw [HIX.out]; rfl, HB4.out⟩
      · rw [decide_eq_false hd] at hcl
        have hno' : ∀ j (hj : j < xs.length), j < k + 1 → d ≤ xs[j].s := by
          intro j hj hjk
          by_cases e : j = k
          · subst e; omega
          · exact hno j hj (by omega)
        have HNO := Lib.hid hno'
        obtain ⟨x, hx⟩ : ∃ x, x = xs[k] := ⟨_, rfl⟩
        rw [← hx] at q0 q1 q2 q3 hcl
        have HCL := Lib.hid hcl
        clear hcl hno hno' hgi hx hd
        go_wp2_with fail
        refine HCL.out.mono ?_; rintro e w4 ⟨rfl, hb4⟩
        have HB4 := Lib.hid (below_step hB.out hb4)
        clear hb4 HCL
        go_wp2_with fail
        go_roundw
        case rel => exact ⟨k + 1, by omega, by go_num, HNO.out, HB4⟩
        case measure => simp [RowKit.intOf]; omega
    · obtain rfl : k = xs.length := by omega
      have hix : idx xs d = -1 := by
        have h : xs.findIdx? (fun v => decide (v.s < d)) = none := by
          rw [List.findIdx?_eq_none_iff]
          intro x hx
          obtain ⟨j, hj, rfl⟩ := List.getElem_of_mem hx
          simpa using hno j hj hj
        rw [idx, h]
      clear hno
      go_wp2_with fail
      go_ret
      exact ⟨by rw [hix]; rfl, hB.out⟩
end Go.Proofs.YtcaakiaenfkeaaaGreat.accf
/-
  slices.DeleteFunc at votes, for the closure of Prepare; Prepare.
-/
namespace Go.Proofs.YtcaakiaenfkeaaaGreat.accg
open Go.ChangeShapes Go.WideShapes Go.ChangeAt Go.RowKit
open Go.Proofs.YtcaakiaenfkeaaaGreat.kit Go.Proofs.YtcaakiaenfkeaaaGreat.mapkit Go.Proofs.YtcaakiaenfkeaaaGreat.byt Go.Proofs.YtcaakiaenfkeaaaGreat.own Go.Proofs.YtcaakiaenfkeaaaGreat.accd Go.Proofs.YtcaakiaenfkeaaaGreat.acca Go.Proofs.YtcaakiaenfkeaaaGreat.accb Go.Proofs.YtcaakiaenfkeaaaGreat.acck Go.Proofs.YtcaakiaenfkeaaaGreat.accc Go.Proofs.YtcaakiaenfkeaaaGreat.acce Go.Proofs.YtcaakiaenfkeaaaGreat.accf
set_option linter.unusedVariables false
set_option linter.unusedSimpArgs false
set_option maxHeartbeats 1000000
set_option maxRecDepth 100000

theorem hp_cells {b : Nat} {T : TypeId} {f : Nat × Nat} : ∀ (vs B A C : List Value) (w : World), w.heap[b]? = some (.cells (A ++ B ++ C).toArray T f) → B.length = vs.length → (w.setCells b A.length vs).heap[b]? = some (.cells (A ++ vs ++ C).toArray T f)
  | [], [], A, C, w, h, _ => h
  | v :: vs, x :: B, A, C, w, h, hl => by
    have h1 := hp_set h A.length v
    have e : (A ++ (x :: B) ++ C).toArray.setIfInBounds A.length v = ((A ++ [v]) ++ B ++ C).toArray := by simp
    rw [e] at h1
    have h2 := hp_cells vs B (A ++ [v]) C _ h1 (by simpa using hl)
    rw [List.length_append] at h2
    simpa [World.setCells] using h2
theorem keep_cells {a : World} {b : Nat} : ∀ (vs : List Value) (o : Nat) (w : World), Keep (fun k => k = b) a w → Keep (fun k => k = b) a (w.setCells b o vs)
  | [], o, w, h => h
  | v :: vs, o, w, h => by rw [World.setCells]; exact keep_cells vs _ _ (h.setCell (p := ⟨b, o, none⟩) (.inr rfl) v)
/-- The zeros that clear stores. -/
def zeros (m : Nat) : List Value := (Builtin.zeroCells (Value.agg #[.int .i64 0, .int .i64 0, .int .i64 0, .slice none 0 0]).cells m).toList
theorem zeros_len (m : Nat) : (zeros m).length = m * 4 ∧ ∀ u ∈ zeros m, u.oneCell' = true := by
  unfold zeros Builtin.zeroCells
  constructor
  · simp [Value.cells]
  · intro u hu
    simp only [Array.toList_map, List.mem_map] at hu
    obtain ⟨i, _, rfl⟩ := hu
    show (#[Value.int .i64 0, .int .i64 0, .int .i64 0, .slice none 0 0][i % 4]!).oneCell' = true
    have h4 : i % 4 < 4 := Nat.mod_lt _ (by omega)
    generalize i % 4 = q at h4
    match q, h4 with
    | 0, _ => rfl
    | 1, _ => rfl
    | 2, _ => rfl
    | 3, _ => rfl
theorem run_clear4 (w : World) (ty : TypeId) (b o m c : Nat) (hm : 0 < m) (hc : ∀ j, j < m * 4 → (w.cell? ⟨b, o + j, none⟩).isSome = true) (hf : ∀ j, j < m * 4 → w.frozen? ⟨b, o + j, none⟩ = false) :
    (Builtin.clear_ #[29] ty #[.slice (some ⟨b, o, none⟩) m c]).run Tryz.prog w = .ok (.tuple #[]) (w.setCells b o (zeros m)) := by
  obtain ⟨m, rfl⟩ : ∃ k, m = k + 1 := ⟨m - 1, by omega⟩
  obtain ⟨hl, h1⟩ := zeros_len (m + 1)
  have hst := run_storeCells_cells (P := Tryz.prog) b o (zeros (m + 1)) 0 w (by rw [hl]; simpa using hc) (by rw [hl]; simpa using hf) h1
  simp only [Nat.add_zero] at hst
  have hz : ∀ w : World, (zeroValue 45).run Tryz.prog w = .ok (.agg #[.int .i64 0, .int .i64 0, .int .i64 0, .slice none 0 0]) w := by intro w; go_simp
  unfold zeros at hst
  simp only [Value.cells] at hst
  simp [Builtin.clear_, run_underlying Tryz.underlying29, hz, Value.cells, hst, zeros]

def kept (xs : List Vt) (d : Int) : List Vt := xs.filter (fun v => decide (d ≤ v.s))
theorem kept_snoc (xs : List Vt) (x : Vt) (d : Int) : kept (xs ++ [x]) d = if d ≤ x.s then kept xs d ++ [x] else kept xs d := by
  unfold kept
  rw [List.filter_append]
  by_cases h : d ≤ x.s
  · rw [if_pos h]; simp [h]
  · rw [if_neg h]; simp [h]
/-- In the loop: what is kept so far, what lies between, what is to come. -/
structure Dl (w wr : World) (g : Nat) (xs : List Vt) (d : Int) (R : List Value) (j : Nat) : Prop where
  row : ∃ J, wr.heap[g]? = some (.cells (vcells (kept (xs.take j) d) ++ J ++ (vcells (xs.drop j) ++ R)).toArray 45 (0, 0)) ∧ (kept (xs.take j) d).length * 4 + J.length = j * 4 ∧ (kept (xs.take j) d).length < j
  keep : Keep (fun k => k = g) w wr
theorem Dl.cells {w wr : World} {g : Nat} {xs : List Vt} {d : Int} {R : List Value} {j : Nat} (h : Dl w wr g xs d R j) (hj : j < xs.length) :
    wr.cell? ⟨g, j * 4, none⟩ = some (.int .i64 xs[j].s) ∧ wr.cell? ⟨g, j * 4 + 1, none⟩ = some (.int .i64 xs[j].r) ∧ wr.cell? ⟨g, j * 4 + 2, none⟩ = some (.int .i64 xs[j].n) ∧ wr.cell? ⟨g, j * 4 + 3, none⟩ = some (.slice xs[j].a xs[j].l.length xs[j].c) := by
  obtain ⟨⟨J, hb, hl, _⟩, _⟩ := h
  have e : vcells (xs.drop j) = Vt.cells xs[j] ++ vcells (xs.drop (j + 1)) := by rw [List.drop_eq_getElem_cons hj]; rfl
  have hA : (vcells (kept (xs.take j) d) ++ J).length = j * 4 := by rw [List.length_append, vcells_len]; exact hl
  have hget : ∀ t, t < 4 → wr.cell? ⟨g, j * 4 + t, none⟩ = (Vt.cells xs[j])[t]? := by
    intro t ht
    rw [(kit.blk hb).1, List.getElem?_toArray, List.getElem?_append_right (by omega), hA, show j * 4 + t - j * 4 = t by omega, e, List.append_assoc, List.getElem?_append_left (by simp [Vt.cells]; omega)]
  exact ⟨hget 0 (by omega), hget 1 (by omega), hget 2 (by omega), hget 3 (by omega)⟩
theorem Dl.slots {w wr : World} {g : Nat} {xs : List Vt} {d : Int} {R : List Value} {j i : Nat} (h : Dl w wr g xs d R j) (hi : i = (kept (xs.take j) d).length) : ∀ t, t < 4 → ∃ y, wr.cell? ⟨g, i * 4 + t, none⟩ = some y := by
  subst hi
  obtain ⟨⟨J, hb, hl, hlt⟩, _⟩ := h
  intro t ht
  have hz : (kept (xs.take j) d).length * 4 + t < (vcells (kept (xs.take j) d) ++ J ++ (vcells (xs.drop j) ++ R)).length := by
    rw [List.length_append, List.length_append, vcells_len]; omega
  exact ⟨_, ((kit.blk hb).1 _).trans (by rw [List.getElem?_toArray]; exact List.getElem?_eq_getElem hz)⟩
theorem Dl.old {w wr w' : World} {g : Nat} {xs : List Vt} {d : Int} {R : List Value} {j : Nat} (h : Dl w wr g xs d R j) (hb : Below wr.heap.size wr w') : Dl w w' g xs d R j := by
  obtain ⟨⟨J, h1, h2, h3⟩, hk⟩ := h
  exact ⟨⟨J, hp_step h1 hb, h2, h3⟩, hk.trans (Keep.of_below hb)⟩
theorem Dl.pass {w wr : World} {g : Nat} {xs : List Vt} {d : Int} {R : List Value} {j : Nat} (h : Dl w wr g xs d R j) (hj : j < xs.length) (hd : xs[j].s < d) : Dl w wr g xs d R (j + 1) ∧ (kept (xs.take (j + 1)) d).length = (kept (xs.take j) d).length := by
  obtain ⟨⟨J, h1, h2, h3⟩, hk⟩ := h
  have e : vcells (xs.drop j) = Vt.cells xs[j] ++ vcells (xs.drop (j + 1)) := by rw [List.drop_eq_getElem_cons hj]; rfl
  have ek : kept (xs.take (j + 1)) d = kept (xs.take j) d := by rw [List.take_succ_eq_append_getElem hj, kept_snoc, if_neg (by omega)]
  refine ⟨⟨⟨J ++ Vt.cells xs[j], ?_, ?_, ?_⟩, hk⟩, by rw [ek]⟩
  · rw [h1, ek, e]
    simp only [List.append_assoc]
  · rw [ek, List.length_append]
    simp only [Vt.cells, List.length_cons, List.length_nil]
    omega
  · rw [ek]; omega
theorem Dl.move {w wr : World} {g : Nat} {xs : List Vt} {d : Int} {R : List Value} {j : Nat} (h : Dl w wr g xs d R j) (hj : j < xs.length) (hd : ¬ xs[j].s < d) :
    Dl w (wr.setCells g ((kept (xs.take j) d).length * 4) (Vt.cells xs[j])) g xs d R (j + 1) ∧ (kept (xs.take (j + 1)) d).length = (kept (xs.take j) d).length + 1 := by
  obtain ⟨⟨J, h1, h2, h3⟩, hk⟩ := h
  have e : vcells (xs.drop j) = Vt.cells xs[j] ++ vcells (xs.drop (j + 1)) := by rw [List.drop_eq_getElem_cons hj]; rfl
  have ek : kept (xs.take (j + 1)) d = kept (xs.take j) d ++ [xs[j]] := by rw [List.take_succ_eq_append_getElem hj, kept_snoc, if_pos (by omega)]
  have hJ : J = J.take 4 ++ J.drop 4 := (List.take_append_drop 4 J).symm
  have h1' : wr.heap[g]? = some (.cells (vcells (kept (xs.take j) d) ++ J.take 4 ++ (J.drop 4 ++ (vcells (xs.drop j) ++ R))).toArray 45 (0, 0)) := by
    rw [h1]
    congr 3
    conv => lhs; rw [hJ]
    simp only [List.append_assoc]
  have h4 := hp_cells (Vt.cells xs[j]) (J.take 4) _ _ _ h1' (by rw [List.length_take]; simp only [Vt.cells, List.length_cons, List.length_nil]; omega)
  rw [vcells_len] at h4
  refine ⟨⟨⟨J.drop 4 ++ Vt.cells xs[j], ?_, ?_, ?_⟩, keep_cells _ _ _ hk⟩, by rw [ek, List.length_append]; rfl⟩
  · rw [h4, ek, vcells_append, e]
    have e1 : vcells [xs[j]] = Vt.cells xs[j] := by simp [vcells]
    rw [e1]
    simp only [List.append_assoc]
  · rw [ek, List.length_append, List.length_append, List.length_drop]
    simp only [Vt.cells, List.length_cons, List.length_nil]
    omega
  · rw [ek, List.length_append]
    simp only [List.length_cons, List.length_nil]
    omega

theorem delf_any (w : World) (base cb : Nat) (d : Int) (a : Option Addr) (c : Nat) (xs : List Vt) (hlen : xs.length ≤ 16) (hr : w.ownsRow base 45 4 (.slice a xs.length c) xs.length (vcells xs)) (hcb : w.heap[cb]? = some (.cells #[.int .i64 d] 3 (0, 0))) :
    Calls Tryz.prog 41 #[.slice a xs.length c, .func (.func 43) #[] #[.pointer (some ⟨cb, 0, none⟩)]] w fun e w' => e = .returned (.slice a (kept xs d).length c) ∧ w'.ownsRow base 45 4 (.slice a (kept xs d).length c) (kept xs d).length (vcells (kept xs d)) ∧ Keep (fun k => a = some ⟨k, 0, none⟩) w w' := by
  have HI := Lib.hid (index_any w base cb d a c xs hlen hr hcb)
  cases hf : xs.findIdx? (fun v => decide (v.s < d)) with
  | none =>
    have hix : idx xs d = -1 := by rw [idx, hf]
    have hk : kept xs d = xs := by
      unfold kept
      rw [List.filter_eq_self]
      intro v hv
      have := (List.findIdx?_eq_none_iff.1 hf) v hv
      simp at this ⊢
      omega
    rw [hix] at HI
    rw [hk]
    have HR := Lib.hid hr
    clear hf hix hk hr hcb
    go_enter Tryz.func41, Tryz.ntmps41
    go_wp2_with fail
    refine HI.out.mono ?_; rintro e w1 ⟨rfl, hb1⟩
    have HB1 := Lib.hid hb1
    clear hb1 HI
    go_wp2_with fail
    go_ret
    exact ⟨rfl, own_below HR.out HB1.out, Keep.of_below HB1.out⟩
  | some i0 =>
    have hix : idx xs d = i0 := by rw [idx, hf]
    rw [hix] at HI
    obtain ⟨hi0, hd0, hno⟩ := List.findIdx?_eq_some_iff_getElem.1 hf
    obtain ⟨g, rfl⟩ := own_ptr hr (by omega)
    have hrow := hr
    rcases hr.2 with ⟨hz, _⟩ | ⟨g', c', cur, e', hg, hh, hc, hm, hsz, hcur⟩
    · simp at hz
    simp only [Value.slice.injEq, Option.some.injEq, Addr.mk.injEq, and_true, true_and] at e'
    obtain ⟨rfl, rfl⟩ := e'
    obtain ⟨R, hR⟩ : ∃ R, cur.toList = vcells xs ++ R := ⟨cur.toList.drop (xs.length * 4), by rw [← hcur, List.take_append_drop]⟩
    have hcurE : cur = (vcells xs ++ R).toArray := by rw [← hR]
    have hRl : (vcells xs ++ R).length = c * 4 := by rw [← hR]; simpa using hsz
    have htk : kept (xs.take i0) d = xs.take i0 := by
      unfold kept
      rw [List.filter_eq_self]
      intro v hv
      obtain ⟨t, ht, rfl⟩ := List.getElem_of_mem hv
      rw [List.getElem_take]
      have ht' : t < i0 := by rw [List.length_take] at ht; omega
      have := hno t ht'
      simp at this ⊢
      omega
    have hk0 : kept (xs.take (i0 + 1)) d = xs.take i0 := by
      rw [List.take_succ_eq_append_getElem hi0, kept_snoc, if_neg (by simp at hd0; omega), htk]
    have hl0 : (kept (xs.take (i0 + 1)) d).length = i0 := by rw [hk0, List.length_take, Nat.min_eq_left (by omega)]
    have hD : Dl w w g xs d R (i0 + 1) := by
      refine ⟨⟨Vt.cells xs[i0], ?_, ?_, by omega⟩, Keep.refl _ _⟩
      · rw [hh, hcurE, hk0]
        congr 3
        have e : xs = xs.take i0 ++ (xs[i0] :: xs.drop (i0 + 1)) := by rw [← List.drop_eq_getElem_cons hi0, List.take_append_drop]
        conv => lhs; rw [e]
        rw [vcells_append]
        have e2 : vcells (xs[i0] :: xs.drop (i0 + 1)) = Vt.cells xs[i0] ++ vcells (xs.drop (i0 + 1)) := rfl
        rw [e2]
        simp only [List.append_assoc]
      · rw [hl0]
        simp only [Vt.cells, List.length_cons, List.length_nil]
        omega
    have hm1 : ((i0 : Int) == -1) = false := by simp
    have hne : cb ≠ g := fun e => by rw [e, hh] at hcb; simp at hcb
    have hcbz := (kit.blk hcb).2.2
    have hgz := (kit.blk hh).2.2
    have HD := Lib.hid hD
    have HCB := Lib.hid hcb
    have HROW := Lib.hid hrow
    clear hf hix hr hcb hrow hh hcur hcurE hsz hR hd0 hno htk hk0 hD
    go_enter Tryz.func41, Tryz.ntmps41
    go_wp2_with fail
    refine HI.out.mono ?_; rintro e w1 ⟨rfl, hb1⟩
    have HD1 := Lib.hid (HD.out.old hb1)
    clear hb1 HI
    go_wp2_with fail
    go_loopw [5, 6] (fun i j wr => ∃ jj ii : Nat, jj ≤ xs.length ∧ j = .int .i64 jj ∧ i = .int .i64 ii ∧ ii = (kept (xs.take jj) d).length ∧ Hid (Dl w wr g xs d R jj)) (fun _ j _ => xs.length - (RowKit.intOf j).toNat)
    case atStart => exact ⟨i0 + 1, i0, by omega, by simp, rfl, hl0.symm, HD1⟩
    case round =>
      obtain ⟨j, i, hj, rfl, rfl, hi, hDl⟩ := hrel
      by_cases hlt : j < xs.length
      · obtain ⟨q0, q1, q2, q3⟩ := hDl.out.cells hlt
        have hij : i < j := by have := hDl.out.row; obtain ⟨J, _, _, h3⟩ := this; rw [hi]; exact h3
        have hcbr := hDl.out.keep.hp HCB.out (fun e => hne e)
        have HI := Lib.hid hi
        clear hi
        have hx16 : j ≤ 16 := by omega
        obtain ⟨x, hx⟩ : ∃ x, x = xs[j] := ⟨_, rfl⟩
        obtain ⟨wb, hwb⟩ : ∃ wb : World, wb = wr.alloc (.cells #[.int .i64 x.s, .int .i64 x.r, .int .i64 x.n, .slice x.a x.l.length x.c] 45) := ⟨_, rfl⟩
        have hbb : Below wr.heap.size wr wb := by rw [hwb]; exact below_new1 _ _
        have hbx : wb.heap[wr.heap.size]? = some (.cells #[.int .i64 x.s, .int .i64 x.r, .int .i64 x.n, .slice x.a x.l.length x.c] 45 (0, 0)) := by rw [hwb]; exact hp_alloc_new _ _
        obtain ⟨d0, -, dz⟩ := blk1 (hp_step hcbr hbb)
        have hcl := clos_any wb cb d x.s x.r x.n x.a x.l.length x.c d0 dz
        have HBB := Lib.hid hbb
        have HBX := Lib.hid hbx
        have HWB := Lib.hid hwb
        obtain ⟨b0, b1, b2, b3, bz⟩ := blk4 hbx
        rw [← hx] at q0 q1 q2 q3
        by_cases hd : x.s < d
        · rw [decide_eq_true hd] at hcl
          have HCL := Lib.hid hcl
          have HPS := Lib.hid (fun (w4 : World) (h : Dl w w4 g xs d R j) => h.pass hlt (by rw [← hx]; exact hd))
          clear hcl hcbr hwb hbb hbx hx hd d0
          go_wp2_with fail
          rw [← HWB.out]
          refine HCL.out.mono ?_; rintro e w4 ⟨rfl, hb4⟩
          have hD4 := hDl.out.old (below_step HBB.out hb4)
          have HP := Lib.hid (HPS.out w4 hD4)
          clear hb4 hD4 HCL HPS
          go_wp2_with fail
          go_roundw
          case rel => exact ⟨j + 1, i, by omega, by go_num, rfl, by rw [HP.out.2]; exact HI.out, HP.out.1⟩
          case measure => simp [RowKit.intOf]; omega
        · rw [decide_eq_false hd] at hcl
          have HCL := Lib.hid hcl
          have HPS := Lib.hid (fun (w4 : World) (h : Dl w w4 g xs d R j) => h.move hlt (by rw [← hx]; exact hd))
          rw [← hx] at HPS
          clear hcl hcbr hwb hbb hbx hx hd d0
          go_wp2_with fail
          rw [← HWB.out]
          refine HCL.out.mono ?_; rintro e w4 ⟨rfl, hb4⟩
          have hD4 := hDl.out.old (below_step HBB.out hb4)
          have HP := Lib.hid (HPS.out w4 hD4)
          rw [← HI.out] at HP
          obtain ⟨y0, z0⟩ := hD4.slots HI.out 0 (by omega)
          obtain ⟨y1, z1⟩ := hD4.slots HI.out 1 (by omega)
          obtain ⟨y2, z2⟩ := hD4.slots HI.out 2 (by omega)
          obtain ⟨y3, z3⟩ := hD4.slots HI.out 3 (by omega)
          rw [Nat.add_zero] at z0
          obtain ⟨J4, hJ4, _⟩ := hD4.row
          have f4 := (kit.blk hJ4).2.1
          have f0 := f4 (i * 4)
          have f1 := f4 (i * 4 + 1)
          have f2 := f4 (i * 4 + 2)
          have f3 := f4 (i * 4 + 3)
          obtain ⟨e0, e1, e2, e3, ez⟩ := blk4 (hp_step HBX.out hb4)
          have hi16 : i ≤ 16 := by omega
          clear hb4 hD4 HCL HPS hJ4 f4 b0 b1 b2 b3 bz q0 q1 q2 q3
          go_wp2_with fail
          go_roundw
          case rel => exact ⟨j + 1, i + 1, by omega, by go_num, by go_num, by rw [HP.out.2], HP.out.1⟩
          case measure => simp [RowKit.intOf]; omega
      · obtain rfl : j = xs.length := by omega
        obtain ⟨⟨J, hb, hl, hlt2⟩, hkp⟩ := hDl.out
        rw [List.take_length] at hb hl hi hlt2
        rw [List.drop_length] at hb
        have hb2 : wr.heap[g]? = some (.cells (vcells (kept xs d) ++ J ++ R).toArray 45 (0, 0)) := hb
        have hJl : J.length = (xs.length - i) * 4 := by omega
        obtain ⟨k1, k2, k3⟩ := kit.blk hb2
        have hal : (vcells (kept xs d) ++ J ++ R).length = c * 4 := by
          rw [List.length_append] at hRl ⊢
          rw [List.length_append]
          have := vcells_len xs
          have := vcells_len (kept xs d)
          omega
        have hcl : ∀ ty c', (Builtin.clear_ #[29] ty #[.slice (some ⟨g, i * 4, none⟩) (xs.length - i) c']).run Tryz.prog wr = .ok (.tuple #[]) (wr.setCells g (i * 4) (zeros (xs.length - i))) := by
          intro ty c'
          refine run_clear4 wr ty g (i * 4) (xs.length - i) c' (by omega) (fun t ht => ?_) (fun t ht => ?_)
          · rw [k1, List.getElem?_toArray, List.getElem?_eq_getElem (by omega)]
            rfl
          · exact k2 _
        have hz := hp_cells (zeros (xs.length - i)) J (vcells (kept xs d)) R wr hb2 (by rw [hJl, (zeros_len _).1])
        rw [vcells_len, ← hi] at hz
        have hfin : (wr.setCells g (i * 4) (zeros (xs.length - i))).ownsRow base 45 4 (.slice (some ⟨g, 0, none⟩) i c) i (vcells (kept xs d)) := by
          refine ⟨by rw [vcells_len, hi], .inr ⟨g, c, _, rfl, hg, hz, by omega, hm, ?_, ?_⟩⟩
          · simp only [List.size_toArray, List.length_append] at hal ⊢
            rw [(zeros_len _).1]
            omega
          · rw [List.append_assoc]
            exact List.take_left' (by rw [vcells_len, hi])
        have hkf := keep_cells (zeros (xs.length - i)) (i * 4) wr hkp
        have HFIN := Lib.hid hfin
        have HKF := Lib.hid (show Keep (fun k => (some ⟨g, 0, none⟩ : Option Addr) = some ⟨k, 0, none⟩) w (wr.setCells g (i * 4) (zeros (xs.length - i))) from ⟨hkf.os, hkf.tape, hkf.output, hkf.size, fun k hk hn => hkf.block k hk (fun e => hn (by rw [e]))⟩)
        have hp1 : ¬ c = i := by omega
        have hp2 : i ≤ c := by omega
        have hp3 : i ≤ xs.length := by omega
        have hp4 : xs.length ≤ c := hc
        have HI := Lib.hid hi
        clear hb hl hb2 hJl k1 k2 k3 hal hz hfin hkf hkp hi hDl
        go_wp2_with fail
        go_ret
        rw [← HI.out]
        exact ⟨rfl, HFIN.out, HKF.out⟩
end Go.Proofs.YtcaakiaenfkeaaaGreat.accg
