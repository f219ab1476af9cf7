/-
  The frame of a law over a table that is laid by its initialiser: the table's cells, a world for the witness, the shut.
-/
import Derived.Test.YtgpkenbefolegaaDoorChecked
import Derived.Test.YtgpkenbefolegaaDoorCards
import Derived.Test.YtgpkenbefolegaaDoorTie
import Derived.Test.YtgpkenbefolegaaDoorSum
import Derived.Test.YtgpkenbefolegaaDoorKit2
import Derived.Deep.DeepHandedRow
import Derived.Lib.LaidTab
namespace Go.Proofs.YtgpkenbefolegaaDoor.laid
open Go.ChangeShapes Go.WideShapes Go.ChangeAt Go.RowKit Go.Joins
open Go.Proofs.YtgpkenbefolegaaDoor.kit Go.Proofs.YtgpkenbefolegaaDoor.sum
set_option linter.unusedVariables false
set_option linter.unusedSimpArgs false

theorem own : ownKnob Tryd.prog.godebug = none := by kernel_rfl
theorem laidOut : laidOutB Tryd.prog = true := by kernel_rfl
theorem gTab : Tryd.prog.globalNamed "purse/codec.quarter" = some 0 := by kernel_rfl
theorem gTabType : (Tryd.prog.globals[0]?).map (·.type) = some 65 := by kernel_rfl
theorem cellsT : Tryd.prog.cellsOf 65 = 16 := by kernel_rfl
theorem cellsU : Tryd.prog.cellsOf 31 = 1 := by kernel_rfl
def nums : List Int := [0, 498536548, 997073096, 651767980, 1994146192, 1802195444, 1303535960, 1342533948, 3988292384, 4027552580, 3604390888, 3412177804, 2607071920, 2262029012, 2685067896, 3183342108]
theorem table {W : World} (h : laidMetH Tryd.prog [("purse/codec.quarter", Rows.laid_purse_codec_quarter)] W) : Lib.TabIs Tryd.prog W "purse/codec.quarter" .u32 nums :=
  Lib.tabIs_of_head (rest := []) gTab gTabType Tryd.underlying65 Tryd.underlying31 cellsU cellsT h
theorem tab {W : World} (h : laidMetH Tryd.prog [("purse/codec.quarter", Rows.laid_purse_codec_quarter)] W) : Tab W := by
  intro i hi
  have := (table h).cell gTab i (by simpa [nums] using hi)
  rw [this]
  have h16 : i = 0 ∨ i = 1 ∨ i = 2 ∨ i = 3 ∨ i = 4 ∨ i = 5 ∨ i = 6 ∨ i = 7 ∨ i = 8 ∨ i = 9 ∨ i = 10 ∨ i = 11 ∨ i = 12 ∨ i = 13 ∨ i = 14 ∨ i = 15 := by omega
  rcases h16 with rfl | rfl | rfl | rfl | rfl | rfl | rfl | rfl | rfl | rfl | rfl | rfl | rfl | rfl | rfl | rfl <;> rfl

theorem byte_wf {l : List Int} (h : ∀ n ∈ l, (Lit.int .u8 n).wf = true) : ∀ x ∈ l, 0 ≤ x ∧ x < 256 := by
  intro x hx
  have := h x hx
  simp [Lit.wf, IntKind.min, IntKind.max, IntKind.signed, IntKind.bits] at this
  omega
theorem nat_list (l : List Int) (h : ∀ x ∈ l, 0 ≤ x ∧ x < 256) : ∃ m : List Nat, l = m.map (fun x : Nat => (x : Int)) ∧ byt.Byt m := by
  induction l with
  | nil => exact ⟨[], rfl, by intro x hx; simp at hx⟩
  | cons x l ih =>
    obtain ⟨m, rfl, hm⟩ := ih fun y hy => h y (List.mem_cons_of_mem _ hy)
    have hx := h x (List.mem_cons_self ..)
    refine ⟨x.toNat :: m, by simp; omega, fun y hy => ?_⟩
    rcases List.mem_cons.1 hy with rfl | hy
    · omega
    · exact hm y hy
theorem bcells_of (m : List Nat) : (m.map (fun x : Nat => (x : Int))).map (Value.int .u8) = byt.bcells m := by simp [byt.bcells]

/-- A world for the witness. -/
noncomputable def laidWorld (os : Os) : World :=
  { World.holding Tryd.prog os ⟨#[], #[], []⟩ with heap := (World.holding Tryd.prog os ⟨#[], #[], []⟩).heap.modify 0 fun
      | .cells _ t frozen => .cells #[.int .u32 0, .int .u32 498536548, .int .u32 997073096, .int .u32 651767980, .int .u32 1994146192, .int .u32 1802195444, .int .u32 1303535960, .int .u32 1342533948, .int .u32 3988292384, .int .u32 4027552580, .int .u32 3604390888, .int .u32 3412177804, .int .u32 2607071920, .int .u32 2262029012, .int .u32 2685067896, .int .u32 3183342108] t frozen
      | o => o }

section
variable {H : Type} {enc : TypeId × Value → H}
/-- The shut of a law whose walk leaves all that was there as it was, at the world at hand. -/
theorem law_post_at {C : Checked} {f : FuncId} {fn : Func} {s : ChangeSpec} (hl : laidOutB C.prog = true)
    (hspec : ∀ (ds : List (DataW H)), ds.length = fn.params.size → s.fn H (ds ++ []) = { results := [.lit (.bool true)], args := ds })
    (tb : TypeId) (hres : fn.resultTypes = #[tb]) (htb : C.prog.underlying tb = some .bool) (hvars : s.vars = [])
    (hread : (fn.params.toList.all fun t => C.prog.readableRec t && decide (t < C.prog.types.size)) = true)
    {W : World} {args : Array Value} {ds gs : List (DataW H)} {before : List MemPlace}
    (hW : DataW.Whole enc C.prog fn.params.toList s.vars false W args.toList ds gs before)
    (hsz : (DataW.weightsEach C.prog (fn.params.toList ++ s.plain.varTypes C.prog) (ds ++ gs)).all (· ≤ reachBytes) = true)
    (walk : ∀ p, DataW.TrodAll enc C.prog W 0 (fun _ => true) true fn.params.toList args.toList ds p → (DataW.weightsEach C.prog fn.params.toList ds).all (· ≤ reachBytes) = true →
      Calls C.prog f args W fun e w' => e = .returned (.bool true) ∧ Below W.heap.size W w') :
    Calls C.prog f args W fun e W' => ∃ v, e = .returned v ∧ s.post enc C.prog fn false true false false W args v W' := by
  have hW' := hW
  have hlt := hW.lt
  obtain ⟨p, q, hA, hV, rfl, hfz, hnd⟩ := hW
  rw [hvars] at hV
  obtain ⟨rfl, rfl⟩ := trodVars_none hV
  have hty : s.plain.varTypes C.prog = [] := by simp [DataSpec.varTypes, ChangeSpec.plain, hvars]
  rw [hty] at hsz
  simp only [List.append_nil] at hsz hW' hlt
  refine (walk p hA hsz).mono fun e W' ⟨he, hb⟩ => ?_
  subst he
  have hlen := trodAll_length _ _ _ _ hA
  have hs := hspec ds (by simpa using hlen)
  refine ⟨_, rfl, ds, [], p, [], p, [], by simpa using hW', ?_, ?_, ?_, hb.frame _, fun h => by cases h⟩
  · rw [hs, hres]
    exact trodAll_mk1 (shut_bool htb _)
  · rw [hs]
    exact trodAll_below hl hb _ _ _ _ hread hA hlt
  · rw [hs, hvars]
    rfl
end
end Go.Proofs.YtgpkenbefolegaaDoor.laid
