/-
  awake of layer 11.
-/
import Derived.Test.YtodoncmielfbeaaChW
namespace Go.Proofs.Ytodoncmielfbeaa.cha
open Go.ChangeShapes Go.WideShapes Go.ChangeAt Go.RowKit Go.Joins
open Go.Proofs.Ytodoncmielfbeaa.kit Go.Proofs.Ytodoncmielfbeaa.mapkit Go.Proofs.Ytodoncmielfbeaa.byt Go.Proofs.Ytodoncmielfbeaa.own Go.Proofs.Ytodoncmielfbeaa.accd Go.Proofs.Ytodoncmielfbeaa.chd Go.Proofs.Ytodoncmielfbeaa.chb Go.Proofs.Ytodoncmielfbeaa.che Go.Proofs.Ytodoncmielfbeaa.chf Go.Proofs.Ytodoncmielfbeaa.chq Go.Proofs.Ytodoncmielfbeaa.cho Go.Proofs.Ytodoncmielfbeaa.chc Go.Proofs.Ytodoncmielfbeaa.chv Go.Proofs.Ytodoncmielfbeaa.chop Go.Proofs.Ytodoncmielfbeaa.chch Go.Proofs.Ytodoncmielfbeaa.chw
set_option linter.unusedVariables false
set_option linter.unusedSimpArgs false
set_option maxHeartbeats 4000000
set_option maxRecDepth 100000

def awakeL : List chp.Pr := [⟨1, [⟨2, 1, 1, [7]⟩]⟩]
theorem awake_err : openE 1 1 awakeL = 0 := by decide
theorem awake_list : openL 1 1 awakeL = [(1, []), (2, [7])] := by decide
theorem new4 (w : World) (x y z t : Obj) : let W := (((w.alloc x).alloc y).alloc z).alloc t
    W.heap[w.heap.size]? = some x ∧ W.heap[w.heap.size + 1]? = some y ∧ W.heap[w.heap.size + 1 + 1]? = some z ∧ W.heap[w.heap.size + 1 + 1 + 1]? = some t ∧ W.heap.size = w.heap.size + 1 + 1 + 1 + 1 := by
  obtain ⟨h1, h2, h3, h4⟩ := new3 w x y z
  refine ⟨hp_new h1, hp_new h2, hp_new h3, ?_, by rw [size_new, h4]⟩
  have := hp_alloc_new (((w.alloc x).alloc y).alloc z) t
  rwa [h4] at this
theorem awake_ok (w : World) : Calls Try.prog 12 #[] w fun e w' => e = .returned (.bool true) ∧ Below w.heap.size w w' := by
  obtain ⟨w4, hw4⟩ : ∃ w4, w4 = (((w.alloc (.cells #[.int .i64 1, .int .i64 1] 43)).alloc (.cells #[.int .u8 7] 5)).alloc (.cells #[.int .i64 2, .int .i64 1, .int .i64 1, .slice (some ⟨w.heap.size + 1, 0, none⟩) 1 1] 45)).alloc (.cells #[.int .i64 1, .slice (some ⟨w.heap.size + 1 + 1, 0, none⟩) 1 1] 36) := ⟨_, rfl⟩
  have hn := new4 w (.cells #[.int .i64 1, .int .i64 1] 43) (.cells #[.int .u8 7] 5) (.cells #[.int .i64 2, .int .i64 1, .int .i64 1, .slice (some ⟨w.heap.size + 1, 0, none⟩) 1 1] 45) (.cells #[.int .i64 1, .slice (some ⟨w.heap.size + 1 + 1, 0, none⟩) 1 1] 36)
  rw [← hw4] at hn
  obtain ⟨n0, n1, n2, n3, hs4⟩ := hn
  have hb4 : Below w.heap.size w w4 := by rw [hw4]; exact below_step (below_new3 _ _ _ _) (below_new1 _ _)
  have hP : RowP w4 (some ⟨w.heap.size + 1 + 1 + 1, 0, none⟩) [⟨1, [⟨2, 1, 1, [7], some ⟨w.heap.size + 1, 0, none⟩, 1⟩], some ⟨w.heap.size + 1 + 1, 0, none⟩, 1⟩] := by
    refine ⟨.inr ⟨_, 0, rfl, (kit.blk n3).2.2, fun i hi j hj => ?_⟩, fun p hp => ?_, by simp⟩
    · have hi0 : i = 0 := by simpa using hi
      subst hi0
      rw [(kit.blk n3).1]
      match j, hj with
      | 0, _ => rfl
      | 1, _ => rfl
    · rw [List.mem_singleton.1 hp]
      refine ⟨⟨.inr ⟨_, 0, rfl, (kit.blk n2).2.2, fun i hi j hj => ?_⟩, fun v hv => ?_, by simp⟩, by simp, by simp⟩
      · have hi0 : i = 0 := by simpa using hi
        subst hi0
        rw [(kit.blk n2).1]
        match j, hj with
        | 0, _ => rfl
        | 1, _ => rfl
        | 2, _ => rfl
        | 3, _ => rfl
      · rw [List.mem_singleton.1 hv]
        refine ⟨.inr ⟨_, 0, rfl, (kit.blk n1).2.2, fun i hi => ?_⟩, by simp, by simp, by simp [Byt], by simp⟩
        have hi0 : i = 0 := by simpa [bcells] using hi
        subst hi0
        rw [(kit.blk n1).1]
        rfl
  have HO := Lib.hid (open_ok w4 1 1 _ 1 _ hP)
  have HB4 := Lib.hid hb4
  have HW4 := Lib.hid hw4
  obtain ⟨p0, p1, -, -, pz⟩ := blk2 n0
  clear n0 n1 n2 n3 hs4 hb4 hP hw4
  go_enter Try.func12, Try.ntmps12
  go_wp2_with fail
  rw [← HW4.out]
  refine HO.out.mono ?_; rintro e w5 ⟨a5, c5, es, rfl, hout, hb5⟩
  have he : openE 1 1 (List.map pv [⟨1, [⟨2, 1, 1, [7], some ⟨w.heap.size + 1, 0, none⟩, 1⟩], some ⟨w.heap.size + 1 + 1, 0, none⟩, 1⟩]) = 0 := awake_err
  rw [he]
  have hdat : es.map le = [(1, []), (2, [7])] := by rw [hout.data]; exact awake_list
  have hlen : es.length = 2 := by have h := congrArg List.length hdat; rw [List.length_map] at h; exact h
  obtain ⟨e0, e1, rfl⟩ := list2 hlen
  simp only [List.map_cons, List.map_nil, List.cons.injEq, and_true] at hdat
  have hl1 : e1.l = [7] := congrArg Prod.snd hdat.2
  have hro := hout.own.rows (by simp) hout.len
  obtain ⟨g, off, rfl, hgz, x0, x1⟩ := hro.cells 1 (by simp)
  have hx1 : w5.cell? ⟨g, off + 1 * 2 + 1, none⟩ = some (.slice e1.a 1 e1.c) := by
    have := x1
    simp only [List.getElem_cons_succ, List.getElem_cons_zero, hl1] at this
    exact this
  have HB5 := Lib.hid (below_step HB4.out hb5)
  clear hro hout hb5 hdat hl1 hlen x0 x1 he
  go_wp2_with fail
  go_ret
  exact ⟨rfl, HB5.out⟩
end Go.Proofs.Ytodoncmielfbeaa.cha
