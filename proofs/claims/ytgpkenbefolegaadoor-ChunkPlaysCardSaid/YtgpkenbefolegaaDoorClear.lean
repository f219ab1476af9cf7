/-
  Contract of (*Box).Clear.
-/
import Derived.Test.YtgpkenbefolegaaDoorMiss
import Derived.Test.YtgpkenbefolegaaDoorPut
namespace Go.Proofs.YtgpkenbefolegaaDoor.box
open Go.ChangeShapes Go.WideShapes Go.ChangeAt Go.RowKit
open Go.Maps
open Go.Proofs.YtgpkenbefolegaaDoor.kit Go.Proofs.YtgpkenbefolegaaDoor.mapkit Go.Proofs.YtgpkenbefolegaaDoor.byt Go.Proofs.YtgpkenbefolegaaDoor.sum Go.Proofs.YtgpkenbefolegaaDoor.cut
set_option linter.unusedVariables false
set_option linter.unusedSimpArgs false
set_option maxHeartbeats 1000000
set_option maxRecDepth 100000

section
open Go.ChangeMaps Go.MapKept
theorem run_clear {P : Program} {w : World} {k : TypeId} {b cnt : Nat} {f : Lit → Option Value} {t e : TypeId} (hown : MapAt w P k b f cnt) (ht : P.underlying t = some (.map k e)) :
    ∃ w', (∀ ty, (Builtin.clear_ #[t] ty #[.map (some b)]).run P w = .ok (.tuple #[]) w') ∧ MapAt w' P k b (fun _ => none) 0 ∧ w.grownBy w' (some b) := by
  have hlt := hown.lt
  obtain ⟨es, clock, hb⟩ := hown.obj
  refine ⟨setBlock w b (.map #[] clock), fun ty => ?_, ?_, ?_⟩
  · simp [Builtin.clear_, run_underlying ht, MapKept.run_getObj_map hb, MapKept.run_setObj_map _ hb, Result.andThen, setBlock]
  · refine ⟨.map [], ⟨#[], clock, ?_, ⟨by simp, stamped_empty clock, by simp⟩, Nat.le_refl _, rfl⟩, rfl, fun x => rfl⟩
    simp [setBlock, hlt]
  · refine ⟨rfl, rfl, rfl, by simp [setBlock], fun k hk hne => ?_⟩
    have hkb : b ≠ k := by rintro rfl; exact hne rfl
    simp only [setBlock]
    simp [Array.getElem?_setIfInBounds, hkb]

end

theorem clear_ok (w : World) (base b m : Nat) (V : BoxV) (h : BoxAt w base b m V) :
    Calls Tryd.prog 23 #[.pointer (some ⟨b, 0, none⟩)] w fun e w' => e = .returned (.tuple #[]) ∧ BoxAt w' base b m empty ∧ Keep (fun k => k = b ∨ k = m) w w' := by
  obtain ⟨b0, b1, b2, f0, f1, _, hzb⟩ := blk3 h.blk
  have hlt := h.lt
  obtain ⟨f, hf, hh⟩ := h.map
  obtain ⟨w1, hrun, hm1, hgr⟩ := run_clear hf Tryd.underlying55
  have k1 := keep_grown hgr
  have hbm : ¬ b = m := hlt.2.2
  have hB1 := k1.hp h.blk hbm
  obtain ⟨c0, c1, c2, g0, g1, _, hzb1⟩ := blk3 hB1
  have HB1 := Lib.hid hB1
  have HM1 := Lib.hid hm1
  have HK1 := Lib.hid k1
  clear hB1 hm1 k1 hgr f0 f1
  have H := Lib.hid h
  clear hh hf h
  have hEnd : ∃ w2 : World, w2 = (w1.setCell ⟨b, 0, none⟩ (.int .i64 0)).setCell ⟨b, 1, none⟩ (.int .u32 0) ∧ BoxAt w2 base b m empty ∧ Keep (fun k => k = b ∨ k = m) w w2 := by
    have k1 := HK1.out
    refine ⟨_, rfl, ?_⟩
    obtain ⟨w2, hw2⟩ : ∃ w2 : World, w2 = (w1.setCell ⟨b, 0, none⟩ (.int .i64 0)).setCell ⟨b, 1, none⟩ (.int .u32 0) := ⟨_, rfl⟩
    rw [← hw2]
    have k2 : Keep (· = b) w1 w2 := by
      rw [hw2]
      exact keep_set2 (Keep.refl _ _) _ _ _ _
    have hblk : w2.heap[b]? = some (.cells #[.int .i64 0, .int .u32 0, .map (some m)] 59 (0, 0)) := by
      rw [hw2]
      exact hp_set (hp_set HB1.out 0 _) 1 _
    refine ⟨⟨H.out.lob, H.out.lom, hblk, ⟨fun _ => none, ?_, fun i hi => rfl⟩, empty_wf⟩, ?_⟩
    · rw [empty_cnt]
      exact HM1.out.keep k2 (fun e => hbm e.symm)
    · exact Keep.trans (b := w1) ⟨k1.os, k1.tape, k1.output, k1.size, fun k hk hn => k1.block k hk (fun e => hn (.inr e))⟩ ⟨k2.os, k2.tape, k2.output, k2.size, fun k hk hn => k2.block k hk (fun e => hn (.inl e))⟩
  have HE := Lib.hid hEnd
  clear hEnd
  go_enter Tryd.func23, Tryd.ntmps23
  go_wp2_with fail
  obtain ⟨w2, hw2, h1, h2⟩ := HE.out
  rw [← hw2]
  exact bodyPost_end (v := .tuple #[]) (by simp [results, Tryd.results23, go_sem]) rfl ⟨rfl, h1, h2⟩
end Go.Proofs.YtgpkenbefolegaaDoor.box
