/-
  An acceptor's Votes.
-/
import Derived.Test.YtodoncmielfbeaaAccB
import Derived.Test.YtodoncmielfbeaaAccK
import Derived.Maps.AppendAt
namespace Go.Proofs.Ytodoncmielfbeaa.accc
open Go.ChangeShapes Go.WideShapes Go.ChangeAt Go.RowKit
open Go.Proofs.Ytodoncmielfbeaa.kit Go.Proofs.Ytodoncmielfbeaa.mapkit Go.Proofs.Ytodoncmielfbeaa.byt Go.Proofs.Ytodoncmielfbeaa.own Go.Proofs.Ytodoncmielfbeaa.accd Go.Proofs.Ytodoncmielfbeaa.acca Go.Proofs.Ytodoncmielfbeaa.accb Go.Proofs.Ytodoncmielfbeaa.acck
set_option linter.unusedVariables false
set_option linter.unusedSimpArgs false
set_option maxHeartbeats 1000000
set_option maxRecDepth 100000

theorem infoVote : (Try.prog.info? 45).map (fun i => (i.zero, i.size, i.bytes)) = some (some (.agg #[.int .i64 0, .int .i64 0, .int .i64 0, .slice none 0 0]), 4, 48) := by kernel_rfl
theorem vcells_append (xs ys : List Vt) : vcells (xs ++ ys) = vcells xs ++ vcells ys := by simp [vcells]
theorem vcells_len (xs : List Vt) : (vcells xs).length = xs.length * 4 := by
  induction xs with
  | nil => rfl
  | cons x xs ih => simp only [vcells, List.flatMap_cons, List.length_append, List.length_cons] at ih ⊢; rw [ih]; simp [Vt.cells]; omega
theorem lie_new4 (w : World) (a b c d : Value) (T : TypeId) : Lie (w.alloc (.cells #[a, b, c, d] T)) (some ⟨w.heap.size, 0, none⟩) [a, b, c, d] := by
  refine .inr ⟨_, 0, rfl, by rw [size_new]; omega, fun i hi => ?_⟩
  have hb := kit.blk (hp_alloc_new w (.cells #[a, b, c, d] T))
  rw [Nat.zero_add, hb.1]
  match i, hi with
  | 0, _ => rfl
  | 1, _ => rfl
  | 2, _ => rfl
  | 3, _ => rfl
/-- The list that Votes tells: memory of its own, the values too. -/
def Told (w w' : World) (v : Value) (ls : List V4) : Prop :=
  ∃ (a : Option Addr) (c : Nat) (xs : List Vt), v = .slice a xs.length c ∧ xs.map lv = ls ∧ w'.ownsRow w.heap.size 45 4 (.slice a xs.length c) xs.length (vcells xs) ∧ ∀ x ∈ xs, accd.Body w' w.heap.size x
structure Coll (w wr : World) (vs : List Vt) (k : Nat) (v : Value) : Prop where
  ps : ∃ (a : Option Addr) (c : Nat) (xs : List Vt), v = .slice a k c ∧ xs.length = k ∧ xs.map lv = (vs.map lv).take k ∧ wr.ownsRow w.heap.size 45 4 (.slice a k c) k (vcells xs) ∧ ∀ x ∈ xs, accd.Body wr w.heap.size x
  below : Below w.heap.size w wr
theorem Coll.step {w wr W1 : World} {vs xs : List Vt} {k : Nat} {a : Option Addr} {c : Nat} {x : Vt} {o : Obj} {v' : Value} (hb : Below w.heap.size w wr) (hl : xs.length = k) (hxs : xs.map lv = (vs.map lv).take k)
    (hrow : wr.ownsRow w.heap.size 45 4 (.slice a k c) k (vcells xs)) (hbd : ∀ y ∈ xs, accd.Body wr w.heap.size y) (hbx : accd.Body wr w.heap.size x) (hq : (vs.map lv)[k]? = some (lv x))
    (hg : (wr.alloc o).grownBy W1 (Value.slice a k c).ownBlock) (hr : W1.ownsRow w.heap.size 45 4 v' (k + 1) (vcells xs ++ x.cells)) : Coll w W1 vs (k + 1) v' := by
  obtain ⟨a', c', rfl⟩ := own_shape hr
  have hbody : ∀ y : Vt, accd.Body wr w.heap.size y → accd.Body W1 w.heap.size y := by
    intro y hy
    refine own_kept hy (fun g hgp => ?_)
    obtain ⟨cur, hcur⟩ := own_heap hy g hgp
    have hgs := own_from hy g hgp
    refine (hg.block g (by rw [size_new]; omega) (fun e => ?_)).trans (hp_alloc_old hgs.2)
    exact own_ne hrow hcur (by decide) g (own_block hrow g e.symm) rfl
  refine ⟨⟨a', c', xs ++ [x], rfl, by simp [hl], ?_, ?_, fun y hy => ?_⟩, ?_⟩
  · rw [List.map_append, hxs, List.take_add_one, hq]
    rfl
  · rw [vcells_append]
    have e : vcells [x] = x.cells := by simp [vcells]
    rw [e]; exact hr
  · rcases List.mem_append.1 hy with hy | hy
    · exact hbody y (hbd y hy)
    · rw [List.mem_singleton.1 hy]; exact hbody x hbx
  · refine (hb.trans (Below.mono (below_new1 wr o) hb.size)).grown hg (by rw [size_new]; have := hb.size; omega) (fun j hj => (own_from hrow j (own_block hrow j hj)).1)
theorem look_get {vs : List Vt} (ho : Ord vs) {k : Nat} (hk : k < vs.length) : accd.look vs (.int .i64 vs[k].s) = some vs[k].val := by
  show (vs.find? (fun v => v.s == vs[k].s)).map Vt.val = _
  have h : vs.find? (fun v => v.s == vs[k].s) = some vs[k] := by
    induction vs generalizing k with
    | nil => simp at hk
    | cons u vs ih =>
      have hu := List.pairwise_cons.1 ho
      cases k with
      | zero => simp
      | succ k =>
        have hk' : k < vs.length := by simpa using hk
        have := hu.1 vs[k] (List.getElem_mem hk')
        rw [List.find?_cons]
        have e : (u.s == vs[k].s) = false := by simp; omega
        simp only [List.getElem_cons_succ, e]
        exact ih hu.2 hk'
  rw [h]; rfl
theorem look_some {vs : List Vt} {x : Int} : (accd.look vs (.int .i64 x)).isSome = true ↔ x ∈ vs.map (·.s) := by
  show ((vs.find? (fun v => v.s == x)).map Vt.val).isSome = true ↔ _
  rw [Option.isSome_map, List.find?_isSome]
  simp
/-- The keys, sorted, are the votes' slots. -/
theorem keys_are {vs : List Vt} (ho : Ord vs) {ss : List Int} (h : KeysOf (accd.look vs) ss) (hs : ss.Pairwise (· < ·)) : ss = vs.map (·.s) := by
  have hm : (vs.map (·.s)).Pairwise (· < ·) := List.pairwise_map.2 ho
  have hnd : (vs.map (·.s)).Nodup := hm.imp (fun h => by omega)
  have hp : ss.Perm (vs.map (·.s)) := (List.perm_ext_iff_of_nodup h.1 hnd).2 (fun x => by rw [h.2 x, look_some])
  exact List.Perm.eq_of_pairwise (le := (· < ·)) (fun a b _ _ h1 h2 => by omega) hs hm hp
theorem ints_cell {w : World} {base g c : Nat} {ss : List Int} (h : w.ownsRow base 3 1 (.slice (some ⟨g, 0, none⟩) ss.length c) ss.length (ss.map encZ)) {k : Nat} (hk : k < ss.length) : w.cell? ⟨g, k, none⟩ = some (.int .i64 ss[k]) := by
  rcases h.2 with ⟨hz, _⟩ | ⟨g', c', cur, e', hg, hh, hc, hm, hsz, hcur⟩
  · simp at hz
  · simp only [Value.slice.injEq, Option.some.injEq, Addr.mk.injEq, and_true, true_and] at e'
    obtain ⟨rfl, _⟩ := e'
    rw [(kit.blk hh).1]
    have h1 : (cur.toList.take (ss.length * 1))[k]? = (ss.map encZ)[k]? := by rw [hcur]
    rw [List.getElem?_take] at h1
    simpa [hk] using h1

theorem votes_at (w : World) (base b mb : Nat) (r n first : Int) (vs : List Vt) (h : AccAt w base b mb r n first vs) :
    Calls Try.prog 26 #[.pointer (some ⟨b, 0, none⟩)] w fun e w' => ∃ v, e = .returned v ∧ Told w w' v (vs.map lv) ∧ Below w.heap.size w w' := by
  obtain ⟨c0, c1, c2, c3, cz⟩ := blk4 h.blk
  obtain ⟨j0, hj, hy0, hy1, hy2⟩ := info_parts infoVote
  have hK := keysC (some mb) w
  obtain ⟨w1, hw1⟩ : ∃ w1 : World, w1 = w.alloc (.cells #[.map (some mb)] 96) := ⟨_, rfl⟩
  have hb1 : Below w.heap.size w w1 := by rw [hw1]; exact below_new1 _ _
  have hs1 : w1.heap.size = w.heap.size + 1 := by rw [hw1, size_new]
  have hS := sortedC w1 w.heap.size mb vs.length _ ((h.below hb1).map) h.len (by rw [hw1]; exact hp_alloc_new _ _)
  have HH := Lib.hid h
  have HK := Lib.hid hK
  have HS := Lib.hid hS
  have HB1 := Lib.hid hb1
  have HW := Lib.hid hw1
  have hlen := h.len
  have hone := h.one
  clear h hK hS hb1 hw1
  go_enter Try.func26, Try.ntmps26
  go_wp2_with fail
  refine HK.out.mono ?_; rintro e w' ⟨rfl, rfl⟩
  rw [← HW.out]
  go_wp2_with fail
  refine HS.out.mono ?_; rintro e w2 ⟨v2, ss, rfl, hko, hsr, hrow, hb2⟩
  obtain rfl := keys_are HH.out.ord hko hsr
  obtain ⟨a2, c2', rfl⟩ := own_shape hrow
  rw [List.length_map] at hrow
  have hb02 := below_step HB1.out hb2
  have HROW := Lib.hid hrow
  have HB2 := Lib.hid hb02
  have hsz2 := hb02.size
  clear hko hsr hrow hb2 hb02 HK HS c0 c1 c2 c3 cz
  go_wp2_with fail
  go_loopw [3, 15] (fun l i wr => ∃ k : Nat, k ≤ vs.length ∧ i = .int .i64 k ∧ Hid (Coll w2 wr vs k l)) (fun _ i _ => vs.length - (RowKit.intOf i).toNat)
  case atStart => exact ⟨0, Nat.zero_le _, rfl, ⟨⟨none, 0, [], rfl, rfl, rfl, World.ownsRow_nil _ _ _ _, by simp⟩, Below.refl _ _⟩⟩
  case round =>
    obtain ⟨k, hk, rfl, hC⟩ := hrel
    by_cases hlt : k < vs.length
    · obtain ⟨⟨a, c, xs, rfl, hxl, hxs, hr, hbd⟩, hB⟩ := hC.out
      have hA := HH.out.below (below_step HB2.out hB)
      obtain ⟨c0, c1, c2, c3, cz⟩ := blk4 hA.blk
      obtain ⟨g2, rfl⟩ := own_ptr HROW.out (by omega)
      have hi := ints_cell (by rw [List.length_map]; exact own_below HROW.out hB) (k := k) (by rw [List.length_map]; exact hlt)
      rw [List.getElem_map] at hi
      have hrg := hA.rng _ (List.getElem_mem hlt)
      have hlk := hA.map.run_look keyedI Try.underlying96 (Try.zeroValue45 wr) (key_int (s := vs[k].s) (by omega) (by omega))
      rw [look_get hA.ord hlt] at hlk
      have hfit := hA.fit _ (List.getElem_mem hlt)
      have hcp := copied_b wr vs[k] (body_rd (hA.bodies _ (List.getElem_mem hlt)) (by omega))
      have hq : (vs.map lv)[k]? = some (lv vs[k]) := by simp [hlt]
      obtain ⟨x, hx⟩ : ∃ x, x = vs[k] := ⟨_, rfl⟩
      rw [← hx] at hi hlk hcp hq hrg
      simp only [Option.getD_some, Vt.val] at hlk
      have HCP := Lib.hid hcp
      have HQ := Lib.hid hq
      have HXS := Lib.hid hxs
      have HR := Lib.hid hr
      have HBD := Lib.hid hbd
      have HB := Lib.hid hB
      clear hcp hq hxs hr hbd hB hx hA hC
      go_wp2_with fail
      refine HCP.out.mono ?_; rintro e w4 ⟨a4, c4, rfl, hbx, hb4⟩
      have hsz4 := HB.out.size
      have HB4 := Lib.hid (below_step HB.out hb4)
      have HR4 := Lib.hid (own_below HR.out hb4)
      have HBD4 := Lib.hid (fun y hy => own_below (HBD.out y hy) hb4)
      have HBX := Lib.hid (own_mono hbx hsz4 : accd.Body w4 w2.heap.size ⟨x.s, x.r, x.n, x.l, a4, c4⟩)
      have hsz5 := hb4.size
      obtain ⟨e3, -⟩ : w4.cell? ⟨b, 3, none⟩ = some (.map (some mb)) ∧ True := ⟨cell_step c3 hb4, trivial⟩
      have ei := cell_step hi hb4
      clear hbx hb4 HR HBD HCP c0 c1 c2 c3 cz hi hlk
      go_wp2_with (at_builtin; refine wpl_append rfl (.tmp 19) (.tmp 27) 34 rfl w2.heap.size 45 j0 _ 4 48 Try.underlying34 hj hy0 hy1 hy2 rfl (by decide) _ k (vcells xs) rfl (HR4.out.alloc _) (some ⟨w4.heap.size, 0, none⟩) 1 1 [.int .i64 x.s, .int .i64 x.r, .int .i64 x.n, .slice a4 x.l.length c4] rfl (by simp) rfl (lie_new4 _ _ _ _ _ _) (by simp [Value.oneCell']) (by unfold maxLen; omega) (by omega) (by rw [size_new]; omega) ?_; intro v5 w5 hown hgr; have HC5 := Lib.hid (Coll.step (x := ⟨x.s, x.r, x.n, x.l, a4, c4⟩) HB4.out hxl HXS.out HR4.out HBD4.out HBX.out HQ.out hgr hown); clear hown hgr)
      go_wp2_with fail
      go_roundw
      case rel => exact ⟨k + 1, by omega, by go_num, HC5⟩
      case measure => simp [RowKit.intOf]; omega
    · obtain rfl : k = vs.length := by omega
      obtain ⟨⟨a, c, xs, rfl, hxl, hxs, hr, hbd⟩, hB⟩ := hC.out
      rw [List.take_of_length_le (by simp)] at hxs
      rw [← hxl] at hr
      have HT := Lib.hid (show Told w wr (.slice a xs.length c) (vs.map lv) from ⟨a, c, xs, rfl, hxs, own_mono hr hsz2, fun y hy => own_mono (hbd y hy) hsz2⟩)
      have HBW := Lib.hid (below_step HB2.out hB)
      rw [hxl] at HT
      clear hxs hr hbd hB hC
      go_wp2_with fail
      go_ret
      exact ⟨_, rfl, HT.out, HBW.out⟩
end Go.Proofs.Ytodoncmielfbeaa.accc
