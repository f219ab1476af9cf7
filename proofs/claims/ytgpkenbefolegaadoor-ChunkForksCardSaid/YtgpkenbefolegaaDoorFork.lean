/-
  Contract of (*Box).Fork; what a nil box answers.
-/
import Derived.Test.YtgpkenbefolegaaDoorClear
import Derived.Test.YtgpkenbefolegaaDoorPlainInt
import Derived.Shelf.SlMaps.Clone
import Derived.Maps.RangeWalk
namespace Go.Proofs.YtgpkenbefolegaaDoor.box
open Go.ChangeShapes Go.WideShapes Go.ChangeAt Go.RowKit
open Go.Maps
open Go.Proofs.YtgpkenbefolegaaDoor.kit Go.Proofs.YtgpkenbefolegaaDoor.mapkit Go.Proofs.YtgpkenbefolegaaDoor.byt Go.Proofs.YtgpkenbefolegaaDoor.sum Go.Proofs.YtgpkenbefolegaaDoor.cut
set_option linter.unusedVariables false
set_option linter.unusedSimpArgs false
set_option maxHeartbeats 1000000
set_option maxRecDepth 100000

theorem mclone_ok (m : Nat) (es : Array MapEntry) (clock : Nat) (w : World) (hb : w.heap[m]? = some (.map es clock)) :
    Calls Tryd.prog 35 #[.map (some m)] w fun e w' => e = .returned (.map (some w.heap.size)) ∧ w' = w.alloc (.map es clock) := by
  have hq := fun w => run_eql_map_nil_sl (P := Tryd.prog) w 55 _ _ (some m) Tryd.underlying55
  go_enter Tryd.func35, Tryd.ntmps35
  go_wp2_with fail
  rw [run_callFunc_extern Tryd.func37 (by kernel_rfl) (by kernel_rfl) (by kernel_rfl) (e := Extern.MapsClone.clone) (by kernel_rfl), run_maps_clone_sl w 55 hb]
  simp only [Result.andThen]
  rw [Oper.upon_value]
  go_wp2_with fail
  rw [run_typeAssert_map_sl _ 55 _ _ _ _ Tryd.underlying55]
  simp only [Result.andThen]
  rw [Oper.upon_value]
  go_wp2_with fail
  go_ret
  exact ⟨rfl, rfl⟩

/-- A nil box. -/
theorem nil_clear (w : World) : Calls Tryd.prog 23 #[.pointer none] w fun e w' => e = .returned (.tuple #[]) ∧ w = w' := by
  go_enter Tryd.func23, Tryd.ntmps23
  go_wp2_with fail
  exact bodyPost_end (v := .tuple #[]) (by simp [results, Tryd.results23, go_sem]) rfl ⟨rfl, rfl⟩
theorem nil_miss (w : World) : Calls Tryd.prog 20 #[.pointer none] w fun e w' => e = .returned (.slice none 0 0) ∧ w = w' := by
  go_enter Tryd.func20, Tryd.ntmps20
  go_wp2_with fail
  go_ret
  exact ⟨rfl, rfl⟩
theorem nil_fork (w : World) : Calls Tryd.prog 27 #[.pointer none] w fun e w' => e = .returned (.pointer none) ∧ w = w' := by
  go_enter Tryd.func27, Tryd.ntmps27
  go_wp2_with fail
  go_ret
  exact ⟨rfl, rfl⟩
theorem nil_done (w : World) : Calls Tryd.prog 18 #[.pointer none] w fun e w' => e = .returned (.tuple #[.slice none 0 0, .bool false]) ∧ Below w.heap.size w w' := by
  go_enter Tryd.func18, Tryd.ntmps18
  go_wp2_with fail
  go_quiet (fail)
  go_wp2_with fail
  exact bodyPost_ret (v := .tuple #[.slice none 0 0, .bool false]) (by simp [results, Tryd.results18, go_sem]) rfl ⟨rfl, below_drewN (Below.refl _ _) _⟩
theorem nil_put (p : PieceV) (w : World) : Calls Tryd.prog 17 #[.pointer none, pval p] w fun e w' => e = .returned (.int .i64 2) ∧ Below w.heap.size w w' := by
  unfold pval
  go_enter Tryd.func17, Tryd.ntmps17
  go_wp2_with fail
  go_ret
  exact ⟨rfl, below_new1 _ _⟩

theorem nodup_le {α : Type} : ∀ (a b : List α), a.Nodup → (∀ x ∈ a, x ∈ b) → a.length ≤ b.length
  | [], _, _, _ => Nat.zero_le _
  | x :: a, b, h, hs => by
    obtain ⟨s, t, rfl⟩ := List.append_of_mem (hs x (List.mem_cons_self ..))
    have h2 := List.nodup_cons.1 h
    have := nodup_le a (s ++ t) h2.2 fun y hy => by
      have := hs y (List.mem_cons_of_mem _ hy)
      simp only [List.mem_append, List.mem_cons] at this ⊢
      rcases this with h3 | rfl | h3
      · exact .inl h3
      · exact absurd hy h2.1
      · exact .inr h3
    simp only [List.length_append, List.length_cons] at this ⊢
    omega

/-- A box's map has no entries but its pieces'. -/
theorem only_keys {w : World} {m base : Nat} {f : Lit → Option Value} {V : BoxV} (hm : MapAt w Tryd.prog 3 m f V.cnt) (hh : Held w base f V.get) {kl : Lit} {c : Value} (hf : f kl = some c) : ∃ i, i < 16 ∧ kl = key i := by
  obtain ⟨D, h1, h2, h3⟩ := hm
  obtain ⟨es, rfl, hp⟩ := h1.tidy keyedInt
  have hmem : ∀ x v, f x = some v → x ∈ es.map (·.1) := by
    intro x v hv
    have := h3 x
    rw [hv] at this
    have h4 := this.1
    rw [Maps.has_eq, List.any_eq_true] at h4
    obtain ⟨q, hq, hk⟩ := h4
    rw [← WideAt.sameKey_eq hk]
    exact List.mem_map_of_mem hq
  apply Classical.byContradiction
  intro hn
  have hlen : (kl :: ((List.range 16).filter fun i => (V.get i).isSome).map key).length ≤ (es.map (·.1)).length := by
    refine nodup_le _ _ ?_ ?_
    · rw [List.nodup_cons]
      refine ⟨?_, ?_⟩
      · intro h
        obtain ⟨i, hi, rfl⟩ := List.mem_map.1 h
        simp only [List.mem_filter, List.mem_range] at hi
        exact hn ⟨i, hi.1, rfl⟩
      · exact List.Pairwise.map key (fun a b hab e => hab (key_same.1 (by rw [e]; exact WideAt.sameKey_self trivial))) (List.Pairwise.filter _ List.nodup_range)
    · intro x hx
      rcases List.mem_cons.1 hx with rfl | hx
      · exact hmem _ _ hf
      · obtain ⟨i, hi, rfl⟩ := List.mem_map.1 hx
        simp only [List.mem_filter, List.mem_range] at hi
        have := hh i hi.1
        cases hg : V.get i with
        | none => rw [hg] at hi; simp at hi
        | some d =>
          rw [hg] at this
          obtain ⟨a, c, h5, _⟩ := this
          exact hmem _ _ h5
  rw [Maps.size_eq] at h2
  simp only [List.length_cons, List.length_map, h2] at hlen
  simp only [BoxV.cnt, cntN] at hlen
  omega

theorem keep_mono {S T : Nat → Prop} {w w' : World} (h : Keep S w w') (hs : ∀ k, S k → T k) : Keep T w w' := ⟨h.os, h.tape, h.output, h.size, fun k hk hn => h.block k hk (fun e => hn (hs k e))⟩
theorem grown_none {w w' : World} (h : Below w.heap.size w w') : w.grownBy w' none := ⟨h.os, h.tape, h.output, h.size, fun k hk _ => h.block k hk⟩

theorem map_copy {w w' : World} {m m' cnt : Nat} {f : Lit → Option Value} {es : Array MapEntry} {clock : Nat} (h : MapAt w Tryd.prog 3 m f cnt) (he : w.heap[m]? = some (.map es clock)) (he' : w'.heap[m']? = some (.map es clock)) : MapAt w' Tryd.prog 3 m' f cnt := by
  obtain ⟨D, ⟨es1, c1, h1, r⟩, h2⟩ := h
  rw [he] at h1
  simp only [Option.some.injEq, Obj.map.injEq] at h1
  obtain ⟨rfl, rfl⟩ := h1
  exact ⟨D, ⟨_, _, he', r⟩, h2⟩

/-- A fork under way: as the box, with whatever rows. -/
def ForkAt (w : World) (base b m : Nat) (V : BoxV) (g : Lit → Bool) : Prop :=
  base ≤ b ∧ base ≤ m ∧ w.heap[b]? = some (.cells #[.int .i64 V.tot, .int .u32 V.sum, .map (some m)] 59 (0, 0)) ∧ ∃ f, MapAt w Tryd.prog 3 m f V.cnt ∧ Held w base f V.get ∧ ∀ y, (f y).isSome = g y
theorem ForkAt.box {w : World} {base b m : Nat} {V : BoxV} {g : Lit → Bool} (h : ForkAt w base b m V g) (hw : WF V) : BoxAt w base b m V := by
  obtain ⟨h1, h2, h3, f, h4, h5, _⟩ := h
  exact ⟨h1, h2, h3, ⟨f, h4, h5⟩, hw⟩
theorem ForkAt.below {w w' : World} {base b m : Nat} {V : BoxV} {g : Lit → Bool} (h : ForkAt w base b m V g) (hb : Below w.heap.size w w') : ForkAt w' base b m V g := by
  obtain ⟨h1, h2, h3, f, h4, h5, h6⟩ := h
  exact ⟨h1, h2, hp_step h3 hb, f, h4.below hb, h5.keep (S := fun _ => False) (Keep.of_below hb) (fun _ _ _ => id), h6⟩

theorem ForkAt.keep {S : Nat → Prop} {w w' : World} {base b m : Nat} {V : BoxV} {g : Lit → Bool} (h : ForkAt w base b m V g) (hk : Keep S w w') (h1 : ¬ S b) (h2 : ¬ S m) (hS : ∀ k cur, w.heap[k]? = some (.cells cur 5 (0, 0)) → ¬ S k) : ForkAt w' base b m V g := by
  obtain ⟨a1, a2, a3, f, a4, a5, a6⟩ := h
  exact ⟨a1, a2, hk.hp a3 h1, f, a4.keep hk h2, a5.keep hk hS, a6⟩

theorem fork_step {w1 wn : World} {base b m i : Nat} {V : BoxV} {g : Lit → Bool} {v : Value} {d : List Nat} (hF : ForkAt w1 base b m V g) (hbn : Below w1.heap.size w1 wn) (hi : i < 16) (hg : V.get i = some d) (hgi : g (key i) = true)
    (hv : wn.ownsRow base 5 1 v d.length (bcells d)) :
    ∃ w', (Instr.mapUpdate 55 (.map (some m)) (.int .i64 i) v).run Tryd.prog wn = .ok () w' ∧ ForkAt w' base b m V g ∧ wn.grownBy w' (some m) := by
  obtain ⟨a1, a2, a3, f, a4, a5, a6⟩ := hF.below hbn
  have hcm : V.cnt < maxLen := by have := cntN_le V.get 16; simp only [BoxV.cnt, maxLen]; omega
  obtain ⟨w', hrun, hm', hgr⟩ := a4.run_store keyedInt Tryd.underlying55 hcm (val := v) (key_of i (by omega)) (key_lit i)
  have hs : (f (key i)).isSome = true := by rw [a6, hgi]
  rw [if_pos hs] at hm'
  obtain ⟨es, clock, he⟩ := a4.obj
  have hbm : b ≠ m := by
    rintro rfl
    rw [a3] at he
    cases he
  have hk := keep_grown hgr
  have hbyte : ∀ k cur, wn.heap[k]? = some (.cells cur 5 (0, 0)) → ¬ k = m := by
    rintro k cur hh rfl
    rw [he] at hh
    cases hh
  refine ⟨w', hrun, ⟨a1, a2, hk.hp a3 hbm, _, hm', fun j hj => ?_, fun y => ?_⟩, hgr⟩
  · by_cases e : j = i
    · subst e
      rw [hg]
      simp only
      obtain ⟨a, c, rfl, _⟩ := own_shape hv
      exact ⟨a, c, by simp [upd, key_same.2 rfl], own_keep' hv hk hbyte⟩
    · have e2 : upd f (key i) v (key j) = f (key j) := by
        have : ¬ (key j).sameKey (key i) = true := fun h => e (key_same.1 h)
        simp [upd, this]
      rw [e2]
      exact a5.keep hk hbyte j hj
  · unfold upd
    split
    · next h =>
      rw [WideAt.sameKey_eq h, hgi]
      rfl
    · exact a6 y

theorem fork_ok (w : World) (base b m : Nat) (V : BoxV) (h : BoxAt w base b m V) (hbase : base ≤ w.heap.size) :
    Calls Tryd.prog 27 #[.pointer (some ⟨b, 0, none⟩)] w fun e w' => ∃ b' m', e = .returned (.pointer (some ⟨b', 0, none⟩)) ∧ w.heap.size ≤ b' ∧ w.heap.size ≤ m' ∧ BoxAt w' base b' m' V ∧ Below w.heap.size w w' := by
  obtain ⟨b0, b1, b2, f0, f1, _, hzb⟩ := blk3 h.blk
  obtain ⟨f, hf, hh⟩ := h.map
  obtain ⟨es, clock, he⟩ := hf.obj
  have hMC : Hid (∀ W, Below w.heap.size w W → Calls Tryd.prog 35 #[.map (some m)] W fun e w' => ∃ m', e = .returned (.map (some m')) ∧ w.heap.size ≤ m' ∧ w'.heap[m']? = some (.map es clock) ∧ Below W.heap.size W w') := by
    intro W hW
    refine (mclone_ok m es clock W (hp_step he hW)).mono ?_
    rintro e w' ⟨rfl, rfl⟩
    exact ⟨_, rfl, hW.size, hp_alloc_new _ _, below_new1 _ _⟩
  have HF := Lib.hid hf
  have HH := Lib.hid hh
  have HE := Lib.hid he
  have H := Lib.hid h
  have hlt := h.lt
  clear hf hh he h
  go_enter Tryd.func27, Tryd.ntmps27
  go_wp2_with fail
  have hStab : ∀ Wx Wy : World, Below Wx.heap.size Wx Wy → (Wx.cell? ⟨b, 0, none⟩ = some (.int .i64 V.tot) ∧ Wx.cell? ⟨b, 1, none⟩ = some (.int .u32 V.sum) ∧ Wx.cell? ⟨b, 2, none⟩ = some (.map (some m)) ∧ Below w.heap.size w Wx) → (Wy.cell? ⟨b, 0, none⟩ = some (.int .i64 V.tot) ∧ Wy.cell? ⟨b, 1, none⟩ = some (.int .u32 V.sum) ∧ Wy.cell? ⟨b, 2, none⟩ = some (.map (some m)) ∧ Below w.heap.size w Wy) := by
    intro Wx Wy kk hs
    obtain ⟨s0, s1, s2, s3⟩ := hs
    exact ⟨cell_step s0 kk, cell_step s1 kk, cell_step s2 kk, below_step s3 kk⟩
  have HhStab := Lib.hid hStab
  clear hStab
  have lMC : Hid (∀ Wx : World, (Wx.cell? ⟨b, 0, none⟩ = some (.int .i64 V.tot) ∧ Wx.cell? ⟨b, 1, none⟩ = some (.int .u32 V.sum) ∧ Wx.cell? ⟨b, 2, none⟩ = some (.map (some m)) ∧ Below w.heap.size w Wx) → Calls Tryd.prog 35 #[.map (some m)] Wx fun e w' => ∃ m', e = .returned (.map (some m')) ∧ w.heap.size ≤ m' ∧ w'.heap[m']? = some (.map es clock) ∧ Below Wx.heap.size Wx w') := by
    intro Wx hs
    obtain ⟨s0, s1, s2, s3⟩ := hs
    have hK := s3
    exact hMC.out _ hK
  have lB : Hid (∀ Wx : World, (Wx.cell? ⟨b, 0, none⟩ = some (.int .i64 V.tot) ∧ Wx.cell? ⟨b, 1, none⟩ = some (.int .u32 V.sum) ∧ Wx.cell? ⟨b, 2, none⟩ = some (.map (some m)) ∧ Below w.heap.size w Wx) → Below w.heap.size w Wx) := by
    intro Wx hs
    obtain ⟨s0, s1, s2, s3⟩ := hs
    have hK := s3
    exact hK
  go_region_held3 (fun w' => w'.cell? ⟨b, 0, none⟩ = some (.int .i64 V.tot) ∧ w'.cell? ⟨b, 1, none⟩ = some (.int .u32 V.sum) ∧ w'.cell? ⟨b, 2, none⟩ = some (.map (some m)) ∧ Below w.heap.size w w') (first | (exact ⟨b0, b1, b2, below_drewN (Below.refl _ _) 1⟩) | (refine HhStab.out _ _ hbn ?_; assumption) | (refine HhStab.out _ _ (below_new1 _ _) ?_; assumption)) (first | (go_at_call 35; refine (lMC.out _ (by assumption)).mono ?_; rintro e wn ⟨m', rfl, hm1, hm2, hbn⟩; have hbw := below_step (lB.out _ (by assumption)) hbn))
  obtain ⟨wq, hwq⟩ : ∃ wq : World, wq = wn.alloc (.cells #[.int .i64 V.tot, .int .u32 V.sum, .map (some m')] 59) := ⟨_, rfl⟩
  have hwn := hbw.size
  have hBq : Below w.heap.size w wq := by rw [hwq]; exact hbw.alloc hwn _
  have hsq : wq.heap.size = wn.heap.size + 1 := by rw [hwq]; exact size_new _ _
  have hFk : ForkAt wq base wn.heap.size m' V (fun y => (f y).isSome) := by
    refine ⟨by omega, by omega, by rw [hwq]; exact hp_alloc_new _ _, f, ?_, ?_, fun _ => rfl⟩
    · exact map_copy HF.out HE.out (by rw [hwq]; exact hp_new hm2)
    · exact HH.out.keep (S := fun _ => False) (Keep.of_below hBq) (fun _ _ _ => id)
  obtain ⟨bq, hbq⟩ : ∃ bq, bq = wn.heap.size := ⟨_, rfl⟩
  rw [← hwq, ← hbq]
  rw [← hbq] at hFk hsq hwn
  have hfq := HF.out.below hBq
  obtain ⟨D, hD1, hD2, hD3⟩ := hfq
  have b2q : wq.cell? ⟨b, 2, none⟩ = some (.map (some m)) := by rw [(bcell hBq).1 _ _ hzb]; exact b2
  have HFK := Lib.hid hFk
  have HD1 := Lib.hid hD1
  have HD3 := Lib.hid hD3
  have hmm : m < w.heap.size := hlt.2.1
  have HSQ := Lib.hid hsq
  clear hsq hwq hbq hm2 hbn hFk hD1 hD2 hD3 b0 b1 b2 f0 f1 hbw
  go_wp2_with (at_range; refine Go.wpList_range_own _ rfl _ 55 rfl 3 22 keyedInt Tryd.underlying55 _ m _ D rfl HD1.out ?_)
  intro w0 hrg0 hg0 hs0
  have hBq0 : Below wq.heap.size wq w0 := ⟨hg0.os, hg0.tape, hg0.output, hg0.size, fun k hk => hg0.block k hk (by simp)⟩
  have hB0 : Below w.heap.size w w0 := below_step hBq hBq0
  have HFK0 := Lib.hid (HFK.out.below hBq0)
  have HRG0 := Lib.hid hrg0
  obtain ⟨r, hr⟩ : ∃ r, r = wq.heap.size := ⟨_, rfl⟩
  rw [← hr] at HRG0 hs0 ⊢
  have HSR : Hid (r = bq + 1) := by simp only [Hid]; rw [hr]; exact HSQ.out
  have hrw' : w.heap.size ≤ r := by rw [hr]; exact hBq.size
  clear hrg0 hg0 hr
  go_wp2_with fail
  go_loopw [4] (fun _ wr => ∃ left cnt, Hid (wr.ranges Tryd.prog 3 raw m r V.cnt D left cnt) ∧ Hid (ForkAt wr base bq m' V (fun y => (f y).isSome)) ∧ Below w.heap.size w wr) (fun _ wr => wr.rangeLeft m r)
  case atStart => exact ⟨_, _, HRG0, HFK0, hB0⟩
  case round =>
    obtain ⟨left, cnt, hrg, hfk, hb⟩ := hrel
    have hrs : r < wr.heap.size := hrg.out.lt
    have hbs := hb.size
    go_wp2_with (at_next; refine Go.wpList_next_ranges _ rfl _ rfl 3 keyedInt raw (fun x : Int => Value.int .i64 x) (fun v : Value => v) (fun key kl hk => by obtain ⟨x, e, _⟩ := Maps.keyOf_int_inv Tryd.underlying3 hk; exact ⟨x, e⟩) (fun v y _ => ⟨v, rfl⟩) m r V.cnt D left cnt rfl hrg.out ?_ ?_)
    · intro _ _
      have HR := Lib.hid (hfk.out.box H.out.wf)
      have hbqw : w.heap.size ≤ bq := hwn
      go_wp2_with fail
      exact bodyPost_ret (v := .pointer (some ⟨bq, 0, none⟩)) (by simp [results, Tryd.results27, go_sem]) rfl ⟨bq, m', rfl, hbqw, hm1, HR.out, hb⟩
    · intro x c kl yd yp w1 cnt1 hkl hlk hrw hat hrg1 hcl hg1 hs1 hen
      obtain rfl : yd = .held c := raw_inv hrw
      have hfk2 : f kl = some c := by
        have h1 := HD3.out kl
        have h2 := Maps.has_true_of_atKey hat
        cases hfk : f kl with
        | none => rw [hfk] at h1; simp only at h1; rw [h1] at h2; cases h2
        | some u =>
          rw [hfk] at h1
          have h3 := (h1.2 .nil).symm.trans (hat .nil)
          simp only [DataW.held.injEq] at h3
          rw [h3]
      obtain ⟨i, hi16, rfl⟩ := only_keys HF.out HH.out hfk2
      obtain rfl : x = (i : Int) := by
        obtain ⟨x', e1, e2, _⟩ := Maps.keyOf_int_inv Tryd.underlying3 hkl
        simp only [Value.int.injEq, true_and] at e1
        simp only [key, Lit.int.injEq, true_and] at e2
        omega
      have hpiece := HH.out i hi16
      obtain ⟨d, hgd⟩ : ∃ d, V.get i = some d := by
        cases hg : V.get i with
        | none => rw [hg] at hpiece; simp only at hpiece; rw [hpiece] at hfk2; cases hfk2
        | some d => exact ⟨d, rfl⟩
      rw [hgd] at hpiece
      obtain ⟨da, dc, e1, hrow⟩ := hpiece
      rw [hfk2] at e1
      simp only [Option.some.injEq] at e1
      subst e1
      obtain ⟨ao, cap, e2, dn, dl, _⟩ := owned_lie hrow
      simp only [Value.slice.injEq, true_and] at e2
      obtain ⟨rfl, rfl⟩ := e2
      have hb1 : Below w.heap.size w w1 := hb.grown hg1 hbs (fun j hj => by simp at hj; omega)
      obtain ⟨_, _, _, _, _, _, _, _, _, hit, _⟩ := hrg.out
      have hfk1 : ForkAt w1 base bq m' V (fun y => (f y).isSome) := by
        refine hfk.out.keep (keep_grown hg1) (by have := HSR.out; omega) ?_ ?_
        · intro e
          obtain ⟨_, _, _, f', a4, _⟩ := hfk.out
          obtain ⟨es', c', he'⟩ := a4.obj
          rw [e, hit] at he'
          cases he'
        · rintro k cur hh rfl
          rw [hit] at hh
          cases hh
      have c3 : w1.cell? ⟨bq, 2, none⟩ = some (.map (some m')) := (blk3 hfk1.2.2.1).2.2.1
      have hdl : d.length ≤ 512 := (H.out.wf.get i d hgd).2.1
      have hs1' : w.heap.size ≤ w1.heap.size := hb1.size
      have hCl : Hid (∀ W : World, Below w1.heap.size w1 W → Calls Tryd.prog 29 #[.slice da d.length dc] W fun e w' => ∃ v, e = .returned v ∧ w'.ownsRow base 5 1 v d.length (bcells d) ∧ Below W.heap.size W w') := by
        intro W hW
        have hWs := hW.size
        refine (clone_any d da dc W (by omega) dn (dl.below (below_step hb1 hW))).mono ?_
        rintro e w' ⟨v, rfl, h1, h2⟩
        exact ⟨v, rfl, own_mono h1 (by omega), h2⟩
      have hst := fun wn v hbn hv => fork_step (wn := wn) (v := v) hfk1 hbn hi16 hgd (by rw [hfk2]; rfl) hv
      have HST := Lib.hid hst
      have HRG1 := Lib.hid hrg1
      have HHIT := Lib.hid hit
      have hmr : ¬ m = m' := by have := hlt.2.1; omega
      have hrm : ¬ r = m' := by
        intro e
        obtain ⟨_, _, _, f', a4, _⟩ := hfk1
        obtain ⟨es', c', he'⟩ := a4.obj
        obtain ⟨_, _, _, _, _, _, _, _, _, hit1, _⟩ := hrg1
        rw [← e, hit1] at he'
        cases he'
      have hre := hrg.out.left_eq
      have HRE := Lib.hid hre
      have HGD := Lib.hid hgd
      clear hfk1 hrow hrg1 hit hst hfk2 hkl hrw hat dl dn hg1 hs1 hgd hre hfk
      go_wp2_with fail
      go_region_with (first | (go_at_call 29; refine (hCl.out _ (below_drewN (Below.refl _ _) 1)).mono ?_; rintro e wn ⟨v, rfl, hv, hbn⟩; have hbw : Below w1.heap.size w1 wn := below_step (below_drewN (Below.refl _ _) 1) hbn; have d1 := cell_step c3 hbw; obtain ⟨w', hrun, hf', hgr⟩ := HST.out wn v hbw hv))
      all_goals
        have hrg2 := (HRG1.out.kept (grown_none hbw) (by simp) (by simp)).kept hgr (fun e => hmr (Option.some.inj e)) (fun e => hrm (Option.some.inj e))
        have HF2 := Lib.hid hf'
        have HR2 := Lib.hid hrg2
        have hbE : Below w.heap.size w w' := (below_step hb1 hbw).grown hgr (by have := hbw.size; omega) (fun j hj => by simp at hj; omega)
        have hml : w'.rangeLeft m r < wr.rangeLeft m r := by rw [hrg2.left_eq, HRE.out]; exact hcl
        clear hf' hrg2 hrun hv
        go_wp2_with fail
        go_roundw
        case rel => exact ⟨_, _, HR2, HF2, hbE⟩
        case measure => exact hml
end Go.Proofs.YtgpkenbefolegaaDoor.box
