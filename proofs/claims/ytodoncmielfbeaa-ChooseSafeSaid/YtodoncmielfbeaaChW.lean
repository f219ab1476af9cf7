/-
  What the statements of layer 11 do besides: copies of votes and promises, whether they are alike, awake.
-/
import Derived.Test.YtodoncmielfbeaaChCh
import Derived.Test.YtodoncmielfbeaaKit2
namespace Go.Proofs.Ytodoncmielfbeaa.chw
open Go.ChangeShapes Go.WideShapes Go.ChangeAt Go.RowKit Go.Joins
open Go.Proofs.Ytodoncmielfbeaa.kit Go.Proofs.Ytodoncmielfbeaa.mapkit Go.Proofs.Ytodoncmielfbeaa.byt Go.Proofs.Ytodoncmielfbeaa.own Go.Proofs.Ytodoncmielfbeaa.accd Go.Proofs.Ytodoncmielfbeaa.chd Go.Proofs.Ytodoncmielfbeaa.chb Go.Proofs.Ytodoncmielfbeaa.che Go.Proofs.Ytodoncmielfbeaa.chf Go.Proofs.Ytodoncmielfbeaa.chq Go.Proofs.Ytodoncmielfbeaa.cho Go.Proofs.Ytodoncmielfbeaa.chc Go.Proofs.Ytodoncmielfbeaa.chv Go.Proofs.Ytodoncmielfbeaa.chop Go.Proofs.Ytodoncmielfbeaa.chch
set_option linter.unusedVariables false
set_option linter.unusedSimpArgs false
set_option maxHeartbeats 4000000
set_option maxRecDepth 100000

def sameW (x y : V4) : Bool := x.s == y.s && (x.r == y.r && x.n == y.n) && sameB x.l y.l
theorem sameW_iff (x y : V4) : sameW x y = true ↔ x = y := by
  obtain ⟨s, r, n, l⟩ := x
  obtain ⟨s', r', n', l'⟩ := y
  simp [sameW, sameB, and_assoc]
theorem samev_any (w : World) (x y : Vt) (hx : Rd w x) (hy : Rd w y) :
    Calls Try.prog 61 #[.agg #[.int .i64 x.s, .int .i64 x.r, .int .i64 x.n, .slice x.a x.l.length x.c], .agg #[.int .i64 y.s, .int .i64 y.r, .int .i64 y.n, .slice y.a y.l.length y.c]] w fun e w' => e = .returned (.bool (sameW (lv x) (lv y))) ∧ Below w.heap.size w w' := by
  obtain ⟨s, r, n, l, a, c⟩ := x
  obtain ⟨s', r', n', l', a', c'⟩ := y
  obtain ⟨w2, hw2⟩ : ∃ w2 : World, w2 = (w.alloc (.cells #[.int .i64 s, .int .i64 r, .int .i64 n, .slice a l.length c] 45)).alloc (.cells #[.int .i64 s', .int .i64 r', .int .i64 n', .slice a' l'.length c'] 45) := ⟨_, rfl⟩
  have hB2 : Below w.heap.size w w2 := by rw [hw2]; exact below_new2 _ _ _
  have HC := Lib.hid (bytes_any l l' a a' c c' w2 (by have := hx.len; simp only at this; omega) (hx.lie.below hB2) (hy.lie.below hB2))
  have HB2 := Lib.hid hB2
  have HW := Lib.hid hw2
  have hq := eqBallot
  have hsv : sameW (lv ⟨s, r, n, l, a, c⟩) (lv ⟨s', r', n', l', a', c'⟩) = (s == s' && (r == r' && n == n') && sameB l l') := rfl
  rw [hsv]
  simp only
  clear hx hy hB2 hw2 hsv
  by_cases h1 : s = s'
  · subst h1
    cases e2 : (r == r' && n == n') with
    | true =>
      go_enter Try.func61, Try.ntmps61
      go_wp2_with fail
      rw [← HW.out]
      refine HC.out.mono ?_; rintro e w3 ⟨rfl, hb3⟩
      go_wp2_with fail
      go_ret
      exact ⟨by simp, below_step HB2.out hb3⟩
    | false =>
      go_enter Try.func61, Try.ntmps61
      go_wp2_with fail
      rw [← HW.out]
      go_ret
      exact ⟨by simp, HB2.out⟩
  · have e1 : (s == s') = false := by simpa using h1
    go_enter Try.func61, Try.ntmps61
    go_wp2_with fail
    rw [← HW.out]
    go_ret
    exact ⟨by simp [e1], HB2.out⟩
theorem same_c (w : World) (a a' : Option Addr) (c c' : Nat) (ps rs : List Vt) (hu : RowC w a ps) (hv : RowC w a' rs) (he : ps.map lv = rs.map lv) :
    Calls Try.prog 60 #[.slice a ps.length c, .slice a' rs.length c', .func (.func 61) #[] #[]] w fun e w' => e = .returned (.bool true) ∧ Below w.heap.size w w' := by
  have hlen : rs.length = ps.length := by have h := congrArg List.length he; rw [List.length_map, List.length_map] at h; exact h.symm
  have hrl := hv.len
  have HU := Lib.hid (fun (wr : World) (hb : Below w.heap.size w wr) k hk => (hu.below hb).cells k hk)
  have HV := Lib.hid (fun (wr : World) (hb : Below w.heap.size w wr) k hk => (hv.below hb).cells k hk)
  have HS : Hid (∀ (wr : World), Below w.heap.size w wr → ∀ k (hk : k < ps.length) (hk' : k < rs.length), Calls Try.prog 61 #[.agg #[.int .i64 ps[k].s, .int .i64 ps[k].r, .int .i64 ps[k].n, .slice ps[k].a ps[k].l.length ps[k].c], .agg #[.int .i64 rs[k].s, .int .i64 rs[k].r, .int .i64 rs[k].n, .slice rs[k].a rs[k].l.length rs[k].c]] wr fun e w' => e = .returned (.bool true) ∧ Below wr.heap.size wr w') := by
    intro wr hb k hk hk'
    have h := samev_any wr ps[k] rs[k] ((hu.below hb).good _ (List.getElem_mem hk)) ((hv.below hb).good _ (List.getElem_mem hk'))
    have e : lv ps[k] = lv rs[k] := by
      have e1 : (ps.map lv)[k]? = (rs.map lv)[k]? := by rw [he]
      simpa [hk, hk'] using e1
    rwa [(sameW_iff _ _).2 e] at h
  clear hu hv he
  rw [hlen]
  have hlen' := Lib.hid hlen
  clear hlen
  go_enter Try.func60, Try.ntmps60
  go_wp2_with fail
  go_loopw [7] (fun i wr => ∃ k : Nat, k ≤ ps.length ∧ i = .int .i64 k ∧ Hid (Below w.heap.size w wr)) (fun i _ => ps.length - (RowKit.intOf i).toNat)
  case atStart => exact ⟨0, Nat.zero_le _, rfl, Below.refl _ _⟩
  case round =>
    obtain ⟨k, hk, rfl, hB⟩ := hrel
    by_cases hlt : k < ps.length
    · have hlt' : k < rs.length := by rw [hlen'.out]; exact hlt
      have hBd := below_step hB.out (below_drewN (Below.refl _ wr) 1)
      obtain ⟨g, offp, rfl, hgz, q0, q1, q2, q3⟩ := HU.out wr hB.out k hlt
      obtain ⟨g', off, rfl, hgz', p0, p1, p2, p3⟩ := HV.out wr hB.out k hlt'
      have hcap2 : ps.length ≤ 9223372036854775807 := by have := hlen'.out; omega
      have HC := Lib.hid (HS.out _ hBd k hlt hlt')
      have HBd := Lib.hid hBd
      obtain ⟨r, hr⟩ : ∃ r, r = rs[k] := ⟨_, rfl⟩
      obtain ⟨p, hp⟩ : ∃ p, p = ps[k] := ⟨_, rfl⟩
      rw [← hr] at p0 p1 p2 p3 HC
      rw [← hp] at q0 q1 q2 q3 HC
      clear hBd hr hp hlt' hrl
      go_wp2_with fail
      go_still_tail 9, (by kernel_rfl)
      change wpList _ _ _ _ _ wr.drew
      go_wp2_with fail
      refine HC.out.mono ?_; rintro e w4 ⟨rfl, hb4⟩
      have HB4 := Lib.hid (below_step HBd.out hb4)
      clear hb4
      go_wp2_with fail
      go_roundw
      case rel => exact ⟨k + 1, by omega, by go_num, HB4⟩
      case measure => simp [RowKit.intOf]; omega
    · obtain rfl : k = ps.length := by omega
      clear hrl
      go_wp2_with fail
      go_ret
      exact ⟨rfl, hB.out⟩
theorem votes_eqc (w : World) (a a' : Option Addr) (c c' : Nat) (ps rs : List Vt) (hu : RowC w a ps) (hv : RowC w a' rs) (he : ps.map lv = rs.map lv) :
    Calls Try.prog 46 #[.slice a ps.length c, .slice a' rs.length c'] w fun e w' => e = .returned (.bool true) ∧ Below w.heap.size w w' := by
  have HS := Lib.hid (same_c w a a' c c' ps rs hu hv he)
  clear hu hv he
  go_enter Try.func46, Try.ntmps46
  go_wp2_with fail
  refine HS.out.mono ?_; rintro e w1 ⟨rfl, hb1⟩
  go_wp2_with fail
  go_ret
  exact ⟨rfl, hb1⟩

theorem infoVote : (Try.prog.info? 45).map (fun i => (i.zero, i.size, i.bytes)) = some (some (.agg #[.int .i64 0, .int .i64 0, .int .i64 0, .slice none 0 0]), 4, 48) := by kernel_rfl
theorem vcells_append (xs ys : List Vt) : vcells (xs ++ ys) = vcells xs ++ vcells ys := by simp [vcells]
theorem vcells_len (xs : List Vt) : (vcells xs).length = xs.length * 4 := by
  induction xs with
  | nil => rfl
  | cons x xs ih => simp only [vcells, List.flatMap_cons, List.length_append, List.length_cons] at ih ⊢; rw [ih]; simp [Vt.cells]; omega
theorem lie_new4 (w : World) (a b c d : Value) (T : TypeId) : Lie (w.alloc (.cells #[a, b, c, d] T)) (some ⟨w.heap.size, 0, none⟩) [a, b, c, d] := by
  refine .inr ⟨_, 0, rfl, by rw [size_new]; omega, fun i hi => ?_⟩
  have hb := kit.blk (hp_alloc_new w (.cells #[a, b, c, d] T))
  rw [Nat.zero_add, hb.1]
  match i, hi with
  | 0, _ => rfl
  | 1, _ => rfl
  | 2, _ => rfl
  | 3, _ => rfl
/-- The list that Votes tells: memory of its own, the values too. -/
def Told (w w' : World) (v : Value) (ls : List V4) : Prop :=
  ∃ (a : Option Addr) (c : Nat) (xs : List Vt), v = .slice a xs.length c ∧ xs.map lv = ls ∧ w'.ownsRow w.heap.size 45 4 (.slice a xs.length c) xs.length (vcells xs) ∧ ∀ x ∈ xs, accd.Body w' w.heap.size x
structure Coll (w wr : World) (vs : List Vt) (k : Nat) (v : Value) : Prop where
  ps : ∃ (a : Option Addr) (c : Nat) (xs : List Vt), v = .slice a k c ∧ xs.length = k ∧ xs.map lv = (vs.map lv).take k ∧ wr.ownsRow w.heap.size 45 4 (.slice a k c) k (vcells xs) ∧ ∀ x ∈ xs, accd.Body wr w.heap.size x
  below : Below w.heap.size w wr
theorem Coll.step {w wr W1 : World} {vs xs : List Vt} {k : Nat} {a : Option Addr} {c : Nat} {x : Vt} {o : Obj} {v' : Value} (hb : Below w.heap.size w wr) (hl : xs.length = k) (hxs : xs.map lv = (vs.map lv).take k)
    (hrow : wr.ownsRow w.heap.size 45 4 (.slice a k c) k (vcells xs)) (hbd : ∀ y ∈ xs, accd.Body wr w.heap.size y) (hbx : accd.Body wr w.heap.size x) (hq : (vs.map lv)[k]? = some (lv x))
    (hg : (wr.alloc o).grownBy W1 (Value.slice a k c).ownBlock) (hr : W1.ownsRow w.heap.size 45 4 v' (k + 1) (vcells xs ++ x.cells)) : Coll w W1 vs (k + 1) v' := by
  obtain ⟨a', c', rfl⟩ := own_shape hr
  have hbody : ∀ y : Vt, accd.Body wr w.heap.size y → accd.Body W1 w.heap.size y := by
    intro y hy
    refine own_kept hy (fun g hgp => ?_)
    obtain ⟨cur, hcur⟩ := own_heap hy g hgp
    have hgs := own_from hy g hgp
    refine (hg.block g (by rw [size_new]; omega) (fun e => ?_)).trans (hp_alloc_old hgs.2)
    exact own_ne hrow hcur (by decide) g (own_block hrow g e.symm) rfl
  refine ⟨⟨a', c', xs ++ [x], rfl, by simp [hl], ?_, ?_, fun y hy => ?_⟩, ?_⟩
  · rw [List.map_append, hxs, List.take_add_one, hq]
    rfl
  · rw [vcells_append]
    have e : vcells [x] = x.cells := by simp [vcells]
    rw [e]; exact hr
  · rcases List.mem_append.1 hy with hy | hy
    · exact hbody y (hbd y hy)
    · rw [List.mem_singleton.1 hy]; exact hbody x hbx
  · refine (hb.trans (Below.mono (below_new1 wr o) hb.size)).grown hg (by rw [size_new]; have := hb.size; omega) (fun j hj => (own_from hrow j (own_block hrow j hj)).1)
/-- The list that CopyVotes makes. -/
theorem copyv_ok (w : World) (a : Option Addr) (c : Nat) (vs : List Vt) (h : RowC w a vs) :
    Calls Try.prog 27 #[.slice a vs.length c] w fun e w' => ∃ v, e = .returned v ∧ Told w w' v (vs.map lv) ∧ Below w.heap.size w w' := by
  obtain ⟨j0, hj, hy0, hy1, hy2⟩ := info_parts infoVote
  obtain ⟨i0, hi, hz0, hz1, hz2⟩ := info_parts infoByte
  have hlen := h.len
  have HH := Lib.hid (fun (wr : World) (hb : Below w.heap.size w wr) => h.below hb)
  clear h
  go_enter Try.func27, Try.ntmps27
  go_wp2_with fail
  go_loopw [3, 4] (fun l i wr => ∃ k : Nat, k ≤ vs.length ∧ i = .int .i64 k ∧ Hid (Coll w wr vs k l)) (fun _ i _ => vs.length - (RowKit.intOf i).toNat)
  case atStart => exact ⟨0, Nat.zero_le _, rfl, ⟨⟨none, 0, [], rfl, rfl, rfl, World.ownsRow_nil _ _ _ _, by simp⟩, Below.refl _ _⟩⟩
  case round =>
    obtain ⟨k, hk, rfl, hC⟩ := hrel
    by_cases hlt : k < vs.length
    · obtain ⟨⟨al, cl, xs, rfl, hxl, hxs, hr, hbd⟩, hB⟩ := hC.out
      have hRC := HH.out wr hB
      obtain ⟨g, off, rfl, hgz, x0, x1, x2, x3⟩ := hRC.cells k hlt
      have hgood := hRC.good _ (List.getElem_mem hlt)
      have hq : (vs.map lv)[k]? = some (lv vs[k]) := by simp [hlt]
      obtain ⟨x, hx⟩ : ∃ x, x = vs[k] := ⟨_, rfl⟩
      rw [← hx] at x0 x1 x2 x3 hgood hq
      obtain ⟨w5, hw5⟩ : ∃ w5, w5 = wr.alloc (.cells #[.int .i64 x.s, .int .i64 x.r, .int .i64 x.n, .slice x.a x.l.length x.c] 45) := ⟨_, rfl⟩
      have hn5 : w5.heap[wr.heap.size]? = some (.cells #[.int .i64 x.s, .int .i64 x.r, .int .i64 x.n, .slice x.a x.l.length x.c] 45 (0, 0)) := by rw [hw5]; exact hp_alloc_new _ _
      have hb5 : Below wr.heap.size wr w5 := by rw [hw5]; exact below_new1 _ _
      obtain ⟨nb, hnb⟩ : ∃ nb, nb = wr.heap.size := ⟨_, rfl⟩
      rw [← hnb] at hn5
      obtain ⟨y0, y1, y2, y3, yz⟩ := blk4 hn5
      obtain ⟨fy0, fy1, fy2, fy3⟩ := blk4f hn5
      have HB5 := Lib.hid hb5
      have HN5 := Lib.hid hn5
      have HW5 := Lib.hid hw5
      have HNB := Lib.hid hnb
      have HQ := Lib.hid hq
      have HXS := Lib.hid hxs
      have HR := Lib.hid hr
      have HBD := Lib.hid hbd
      have HB := Lib.hid hB
      have HNIL := Lib.hid hgood.nil
      have HLIE := Lib.hid (hgood.lie.below hb5)
      have hxl2 := hgood.len
      have hsz := hB.size
      clear hRC hgood hq hx hw5 hn5 hb5 hnb hxs hr hbd hB hC
      go_upto_region 6 with fail
      rw [← HW5.out, ← HNB.out]
      clear x0 x1 x2 x3
      go_wp2_with (at_builtin; refine wpl_append rfl _ _ 37 rfl w5.heap.size 5 i0 (.int .u8 0) 1 1 Try.underlying37 hi hz0 hz1 hz2 rfl (by decide) _ 0 [] rfl (World.ownsRow_nil _ _ _ _) x.a x.l.length x.c (bcells x.l) rfl HNIL.out (by rw [bcells_len]; simp) HLIE.out (bcells_one _) (by unfold maxLen; omega) (by omega) (Nat.le_refl _) ?_)
      intro v6 w6 hown6 hgr6
      try simp only [Nat.zero_add, List.nil_append] at hown6
      obtain ⟨a6, c6, rfl⟩ := own_shape hown6
      have hb6 : Below w5.heap.size w5 w6 := ⟨hgr6.os, hgr6.tape, hgr6.output, hgr6.size, fun j hj => hgr6.block j hj (by simp [Value.ownBlock])⟩
      have hn6 := hp_step HN5.out hb6
      have hnbl : nb < w5.heap.size := (kit.blk HN5.out).2.2
      have hnbw : w.heap.size ≤ nb := by rw [HNB.out]; exact hsz
      obtain ⟨u0, u1, u2, u3, uz⟩ := blk4 hn6
      obtain ⟨fu0, fu1, fu2, fu3⟩ := blk4f hn6
      obtain ⟨w7, hw7⟩ : ∃ w7, w7 = w6.setCell ⟨nb, 3, none⟩ (.slice a6 x.l.length c6) := ⟨_, rfl⟩
      have hb56 := below_step HB5.out hb6
      have hn7 : w7.heap[nb]? = some (.cells #[.int .i64 x.s, .int .i64 x.r, .int .i64 x.n, .slice a6 x.l.length c6] 45 (0, 0)) := by rw [hw7]; exact hp_set hn6 3 _
      have hb7 : Below wr.heap.size wr w7 := by rw [hw7]; exact hb56.setCell (p := ⟨nb, 3, none⟩) (by rw [← HNB.out]; exact Nat.le_refl _) _
      have hr7 := own_below HR.out hb7
      have hbd7 : ∀ y ∈ xs, accd.Body w7 w.heap.size y := fun y hy => own_below (HBD.out y hy) hb7
      have hown7 : w7.ownsRow w5.heap.size 5 1 (.slice a6 x.l.length c6) x.l.length (bcells x.l) := by
        rw [hw7]
        exact own_kept hown6 (fun g hg => hp_set_ne (by have := (own_from hown6 g hg).1; show g ≠ nb; omega))
      have hbx7 : accd.Body w7 w.heap.size ⟨x.s, x.r, x.n, x.l, a6, c6⟩ := own_mono hown7 (by have := HB5.out.size; omega)
      have HR7 := Lib.hid hr7
      have HBD7 := Lib.hid hbd7
      have HBX7 := Lib.hid hbx7
      have HB7 := Lib.hid (below_step HB.out hb7)
      have HW7 := Lib.hid hw7
      have hs7 : w.heap.size ≤ w7.heap.size := HB7.out.size
      clear y0 y1 y2 y3 yz fy0 fy1 fy2 fy3
      obtain ⟨y0, y1, y2, y3, yz⟩ := blk4 hn7
      clear hown6 hgr6 hb6 hn6 hw7 hb56 hn7 hb7 hr7 hbd7 hown7 hbx7
      go_upto_region 7 with fail
      rw [← HW7.out]
      clear u0 u1 u2 u3 uz fu0 fu1 fu2 fu3 HW7
      go_wp2_with (at_builtin; refine wpl_append rfl (.tmp 20) (.tmp 22) 34 rfl w.heap.size 45 j0 _ 4 48 Try.underlying34 hj hy0 hy1 hy2 rfl (by decide) _ k (vcells xs) rfl (HR7.out.alloc _) (some ⟨w7.heap.size, 0, none⟩) 1 1 [.int .i64 x.s, .int .i64 x.r, .int .i64 x.n, .slice a6 x.l.length c6] rfl (by simp) rfl (lie_new4 _ _ _ _ _ _) (by simp [Value.oneCell']) (by unfold maxLen; omega) (by omega) (by rw [size_new]; omega) ?_; intro v8 w8 hown hgr; have HC8 := Lib.hid (Coll.step (x := ⟨x.s, x.r, x.n, x.l, a6, c6⟩) HB7.out hxl HXS.out HR7.out HBD7.out HBX7.out HQ.out hgr hown); clear hown hgr)
      go_wp2_with fail
      go_roundw
      case rel => exact ⟨k + 1, by omega, by go_num, HC8⟩
      case measure => simp [RowKit.intOf]; omega
    · obtain rfl : k = vs.length := by omega
      obtain ⟨⟨al, cl, xs, rfl, hxl, hxs, hr, hbd⟩, hB⟩ := hC.out
      rw [List.take_of_length_le (by simp)] at hxs
      rw [← hxl] at hr
      have HT := Lib.hid (show Told w wr (.slice al xs.length cl) (vs.map lv) from ⟨al, cl, xs, rfl, hxs, hr, hbd⟩)
      have HBW := Lib.hid hB
      rw [hxl] at HT
      clear hxs hr hbd hB hC
      go_wp2_with fail
      go_ret
      exact ⟨_, rfl, HT.out, HBW.out⟩


theorem pv_lv {vs xs : List Vt} (h : xs.map lv = vs.map lv) : xs.map vv = vs.map vv := by
  have e : ∀ l : List Vt, l.map vv = (l.map lv).map (fun v => (⟨v.s, v.r, v.n, v.l⟩ : chp.V)) := fun l => by rw [List.map_map]; rfl
  rw [e, e, h]
/-- A promise in memory of its own. -/
structure OwnP (w : World) (base : Nat) (q : Pt) : Prop where
  row : w.ownsRow base 45 4 (.slice q.a q.vs.length q.c) q.vs.length (vcells q.vs)
  body : ∀ v ∈ q.vs, accd.Body w base v
  fit : ∀ v ∈ q.vs, v.l.length ≤ 140737488355328 ∧ Byt v.l ∧ (-9223372036854775808 ≤ v.s ∧ v.s ≤ 9223372036854775807)
  len : q.vs.length ≤ 2932031007402
  node : -9223372036854775808 ≤ q.node ∧ q.node ≤ 9223372036854775807
theorem vcells_f (v : Vt) : v.cells.length = 4 := rfl
theorem OwnP.good {w : World} {base : Nat} {q : Pt} (h : OwnP w base q) : GoodP w q := by
  refine ⟨⟨own_rows vcells_f h.row, fun v hv => ?_, h.len⟩, ?_, h.node⟩
  · obtain ⟨f1, f2, f3⟩ := h.fit v hv
    exact ⟨(body_lie (h.body v hv)).1, (body_lie (h.body v hv)).2, f1, f2, f3⟩
  · obtain ⟨ao, cap, e, h1, -, -⟩ := owned_lie h.row
    simp only [Value.slice.injEq, true_and] at e
    obtain ⟨rfl, rfl⟩ := e
    exact h1
theorem OwnP.keep {w w' : World} {base : Nat} {q : Pt} (h : OwnP w base q) (hk : ∀ (g : Nat) (cs : Array Value) (T : TypeId), T ≠ 36 → w.heap[g]? = some (Obj.cells cs T (0, 0)) → w'.heap[g]? = some (Obj.cells cs T (0, 0))) : OwnP w' base q := by
  refine ⟨own_kept h.row (fun g hg => ?_), fun v hv => own_kept (h.body v hv) (fun g hg => ?_), h.fit, h.len, h.node⟩
  · obtain ⟨cur, hcur⟩ := own_heap h.row g hg
    rw [hcur]; exact hk g cur _ (by decide) hcur
  · obtain ⟨cur, hcur⟩ := own_heap (h.body v hv) g hg
    rw [hcur]; exact hk g cur _ (by decide) hcur
theorem OwnP.below {w w' : World} {base : Nat} {q : Pt} (h : OwnP w base q) (hb : Below w.heap.size w w') : OwnP w' base q := h.keep (fun g cs T _ hg => hp_step hg hb)
theorem OwnP.mono {w : World} {base base' : Nat} {q : Pt} (h : OwnP w base q) (hb : base' ≤ base) : OwnP w base' q := ⟨own_mono h.row hb, fun v hv => own_mono (h.body v hv) hb, h.fit, h.len, h.node⟩
/-- A row of promises in memory of its own. -/
structure RowO (w : World) (base : Nat) (a : Option Addr) (c : Nat) (qs : List Pt) : Prop where
  row : w.ownsRow base 36 2 (.slice a qs.length c) qs.length (pcells qs)
  own : ∀ q ∈ qs, OwnP w base q
theorem RowO.rowP {w : World} {base : Nat} {a : Option Addr} {c : Nat} {qs : List Pt} (h : RowO w base a c qs) (hl : qs.length ≤ 4398046511104) : RowP w a qs :=
  ⟨own_rows pcells_len h.row, fun q hq => (h.own q hq).good, hl⟩
theorem RowO.below {w w' : World} {base : Nat} {a : Option Addr} {c : Nat} {qs : List Pt} (h : RowO w base a c qs) (hb : Below w.heap.size w w') : RowO w' base a c qs := ⟨own_below h.row hb, fun q hq => (h.own q hq).below hb⟩
theorem RowO.step {w wr w' : World} {a : Option Addr} {c : Nat} {qs : List Pt} {q : Pt} {ob : Obj} {v' : Value} (hr : RowO wr w.heap.size a c qs) (hq : OwnP wr w.heap.size q)
    (hg : (wr.alloc ob).grownBy w' (Value.slice a qs.length c).ownBlock) (hown : w'.ownsRow w.heap.size 36 2 v' (qs.length + 1) (pcells qs ++ q.cells)) : ∃ a' c', v' = .slice a' (qs ++ [q]).length c' ∧ RowO w' w.heap.size a' c' (qs ++ [q]) := by
  obtain ⟨a', c', rfl⟩ := own_shape hown
  have hk : ∀ (g : Nat) (cs : Array Value) (T : TypeId), T ≠ 36 → wr.heap[g]? = some (Obj.cells cs T (0, 0)) → w'.heap[g]? = some (Obj.cells cs T (0, 0)) := by
    intro g cs T hT hgc
    have hgz := (kit.blk hgc).2.2
    refine (hg.block g (by rw [size_new]; omega) (fun e => ?_)).trans ((hp_alloc_old hgz).trans hgc)
    have e' := own_block hr.row g e.symm
    exact own_ne hr.row hgc hT g e' rfl
  refine ⟨a', c', by simp, ⟨by rw [pcells_snoc]; simpa using hown, fun p hp => ?_⟩⟩
  rcases List.mem_append.1 hp with hp | hp
  · exact (hr.own p hp).keep hk
  · rw [List.mem_singleton.1 hp]; exact hq.keep hk

theorem copy_own {w W w4 : World} {p : Pt} {xs : List Vt} {a : Option Addr} {c : Nat} (hxs : xs.map lv = p.vs.map lv) (hr : w4.ownsRow W.heap.size 45 4 (.slice a xs.length c) xs.length (vcells xs)) (hb : ∀ x ∈ xs, accd.Body w4 W.heap.size x) (hg : GoodP W p) (hw : w.heap.size ≤ W.heap.size) : OwnP w4 w.heap.size ⟨p.node, xs, a, c⟩ := by
  refine ⟨own_mono hr hw, fun v hv => own_mono (hb v hv) hw, fun v hv => ?_, ?_, hg.node⟩
  · have h1 : lv v ∈ p.vs.map lv := by rw [← hxs]; exact List.mem_map_of_mem hv
    obtain ⟨y, hy, e⟩ := List.mem_map.1 h1
    have hy2 := hg.row.good y hy
    have e1 : y.l = v.l := congrArg V4.l e
    have e2 : y.s = v.s := congrArg V4.s e
    rw [← e1, ← e2]
    exact ⟨hy2.len, hy2.byt, hy2.slot⟩
  · have h1 := congrArg List.length hxs
    rw [List.length_map, List.length_map] at h1
    show xs.length ≤ _
    rw [h1]; exact hg.row.len
theorem own_ok (w : World) (a : Option Addr) (c : Nat) (l : List Pt) (h : RowP w a l) :
    Calls Try.prog 7 #[.slice a l.length c] w fun e w' => ∃ (a' : Option Addr) (c' : Nat) (qs : List Pt), e = .returned (.slice a' qs.length c') ∧ qs.map pv = l.map pv ∧ RowO w' w.heap.size a' c' qs ∧ Below w.heap.size w w' := by
  obtain ⟨j0, hj, hy0, hy1, hy2⟩ := info_parts infoProm
  have hll := h.len
  have HH := Lib.hid (fun (wr : World) (hb : Below w.heap.size w wr) => h.below hb)
  clear h
  go_enter Try.func7, Try.ntmps7
  go_wp2_with fail
  go_loopw [3, 4] (fun o i wr => ∃ (k : Nat) (ao : Option Addr) (co : Nat) (qs : List Pt), k ≤ l.length ∧ i = .int .i64 k ∧ o = .slice ao qs.length co ∧ Hid (qs.map pv = (l.take k).map pv) ∧ Hid (RowO wr w.heap.size ao co qs) ∧ Hid (Below w.heap.size w wr)) (fun _ i _ => l.length - (RowKit.intOf i).toNat)
  case atStart => exact ⟨0, none, 0, [], Nat.zero_le _, rfl, rfl, rfl, ⟨World.ownsRow_nil _ _ _ _, by simp⟩, Below.refl _ _⟩
  case round =>
    obtain ⟨k, ao, co, qs, hk, rfl, rfl, HQ, HO, HB⟩ := hrel
    have hql : qs.length = k := by
      have h1 := congrArg List.length HQ.out
      rw [List.length_map, List.length_map, List.length_take] at h1
      omega
    have HQL := Lib.hid hql
    have hqle : qs.length ≤ l.length := by omega
    clear hql
    by_cases hlt : k < l.length
    · have hbd : Below wr.heap.size wr wr.drew := below_drewN (Below.refl _ wr) 1
      have hbw := below_step HB.out hbd
      have hP := HH.out wr.drew hbw
      obtain ⟨g, off, rfl, hgz, u0, u1⟩ := (HH.out w (Below.refl _ _)).cells k hlt
      have hgp := hP.good _ (List.getElem_mem hlt)
      have hsn := chr.pv_take l k hlt
      obtain ⟨p, hp⟩ : ∃ p, p = l[k] := ⟨_, rfl⟩
      rw [← hp] at u0 u1 hgp hsn
      have HU : Hid (∀ wx, Below w.heap.size w wx → wx.cell? ⟨g, off + k * 2, none⟩ = some (.int .i64 p.node) ∧ wx.cell? ⟨g, off + k * 2 + 1, none⟩ = some (.slice p.a p.vs.length p.c)) := fun wx hb => ⟨(hb.cell (p := ⟨g, _, none⟩) hgz).trans u0, (hb.cell (p := ⟨g, _, none⟩) hgz).trans u1⟩
      obtain ⟨x0, x1⟩ := HU.out wr.drew hbw
      have HCV := Lib.hid (copyv_ok wr.drew p.a p.c p.vs hgp.row)
      have HGP := Lib.hid hgp
      have HSN := Lib.hid hsn
      have HBd := Lib.hid hbd
      have HBW := Lib.hid hbw
      have HOd := Lib.hid (HO.out.below hbd)
      have hws : w.heap.size ≤ wr.drew.heap.size := hbw.size
      have hqlt : qs.length < l.length := by have := HQL.out; omega
      have hgz' : g < wr.heap.size := Nat.lt_of_lt_of_le hgz HB.out.size
      clear hbd hbw hP hgp hsn hp hgz u0 u1
      go_wp2_with fail
      go_region_held3 (fun w' => w'.cell? ⟨g, off + k * 2, none⟩ = some (.int .i64 p.node) ∧ w'.cell? ⟨g, off + k * 2 + 1, none⟩ = some (.slice p.a p.vs.length p.c))
        (first | (exact ⟨x0, x1⟩) | (exact ⟨y0, y1⟩) | (exact ⟨cell_step y0 (below_new1 _ _), cell_step y1 (below_new1 _ _)⟩) | (exact ⟨z0, z1⟩) | fail)
        (first | (go_at_call 27; refine HCV.out.mono ?_; rintro e w4 ⟨v4, rfl, ⟨a4, c4, xs, rfl, hxs, hrow4, hbod4⟩, hb4⟩; have hOQ : OwnP w4 w.heap.size ⟨p.node, xs, a4, c4⟩ := copy_own hxs hrow4 hbod4 HGP.out hws; have HOQ := Lib.hid hOQ; have HPV := Lib.hid (show pv ⟨p.node, xs, a4, c4⟩ = pv p from congrArg (fun z => (⟨p.node, z⟩ : chp.Pr)) (pv_lv hxs)); have HO4 := Lib.hid (HOd.out.below hb4); have HB4 := Lib.hid (below_step HBW.out hb4); obtain ⟨y0, y1⟩ := HU.out w4 HB4.out; have hs4 : w.heap.size ≤ w4.heap.size := HB4.out.size; clear hxs hrow4 hbod4 hOQ hb4) | (refine step_append rfl (.tmp 11) (.tmp 24) 22 rfl w.heap.size 36 j0 _ 2 32 Try.underlying22 hj hy0 hy1 hy2 rfl (by decide) (.slice ao qs.length co) qs.length (pcells qs) rfl (HO4.out.row.alloc _) (some ⟨w4.heap.size, 0, none⟩) 1 1 [.int .i64 p.node, .slice a4 xs.length c4] rfl (by simp) rfl (lie_new2' w4 _ _ _) (by simp [Value.oneCell']) (by unfold maxLen; omega) (by omega) (by rw [size_new]; omega) ?_; intro v8 w8 hown hgr; obtain ⟨a8, c8, rfl, hO8⟩ := RowO.step HO4.out HOQ.out hgr hown; have hb48 : Below w.heap.size w w8 := (below_step HB4.out (below_new1 w4 _)).grown hgr (by rw [size_new]; omega) (fun j hj => (HO4.out.row.lt j hj).1); have HO8 := Lib.hid hO8; have HB8 := Lib.hid hb48; obtain ⟨z0, z1⟩ := HU.out w8 hb48; clear hown hgr hO8 hb48))
      have HQ8 : Hid ((qs ++ [(⟨p.node, xs, a4, c4⟩ : Pt)]).map pv = (l.take (k + 1)).map pv) := by
        simp only [Hid]
        rw [HSN.out, List.map_append, HQ.out]
        show _ ++ [pv ⟨p.node, xs, a4, c4⟩] = _
        rw [HPV.out]
      go_wp2_with fail
      go_roundw
      case rel => exact ⟨k + 1, a8, c8, (qs ++ [(⟨p.node, xs, a4, c4⟩ : Pt)]), by omega, by go_num, by simp, HQ8, HO8, HB8⟩
      case measure => simp [RowKit.intOf]; omega
    · obtain rfl : k = l.length := by omega
      have HQ2 : Hid (qs.map pv = l.map pv) := by simp only [Hid]; rw [HQ.out, List.take_length]
      go_wp2_with fail
      go_ret
      exact ⟨ao, co, qs, rfl, HQ2.out, HO.out, HB.out⟩

theorem vlv_pv {p q : Pt} (h : pv p = pv q) : p.node = q.node ∧ p.vs.map lv = q.vs.map lv := by
  refine ⟨congrArg chp.Pr.node h, ?_⟩
  have h1 : p.vs.map vv = q.vs.map vv := congrArg chp.Pr.vs h
  have e : ∀ l : List Vt, l.map lv = (l.map vv).map (fun v => (⟨v.s, v.r, v.n, v.d⟩ : V4)) := fun l => by rw [List.map_map]; rfl
  rw [e, e, h1]
theorem aone_any (w : World) (p q : Pt) (hp : GoodP w p) (hq : GoodP w q) (he : pv p = pv q) :
    Calls Try.prog 45 #[.agg #[.int .i64 p.node, .slice p.a p.vs.length p.c], .agg #[.int .i64 q.node, .slice q.a q.vs.length q.c]] w fun e w' => e = .returned (.bool true) ∧ Below w.heap.size w w' := by
  obtain ⟨e1, e2⟩ := vlv_pv he
  obtain ⟨w2, hw2⟩ : ∃ w2 : World, w2 = (w.alloc (.cells #[.int .i64 p.node, .slice p.a p.vs.length p.c] 36)).alloc (.cells #[.int .i64 q.node, .slice q.a q.vs.length q.c] 36) := ⟨_, rfl⟩
  have hB2 : Below w.heap.size w w2 := by rw [hw2]; exact below_new2 _ _ _
  have HC := Lib.hid (votes_eqc w2 p.a q.a p.c q.c p.vs q.vs (hp.row.below hB2) (hq.row.below hB2) e2)
  have HB2 := Lib.hid hB2
  have HW := Lib.hid hw2
  obtain ⟨n, hn⟩ : ∃ n, n = p.node := ⟨_, rfl⟩
  have hn2 : q.node = n := by rw [hn, e1]
  rw [← hn, hn2]
  rw [← hn, hn2] at HW
  clear hp hq hB2 hw2 e1 e2 he hn hn2
  go_enter Try.func45, Try.ntmps45
  go_wp2_with fail
  rw [← HW.out]
  refine HC.out.mono ?_; rintro e w3 ⟨rfl, hb3⟩
  go_wp2_with fail
  go_ret
  exact ⟨rfl, below_step HB2.out hb3⟩
theorem same_prs (w : World) (a a' : Option Addr) (c c' : Nat) (ps rs : List Pt) (hu : RowP w a ps) (hv : RowP w a' rs) (he : ps.map pv = rs.map pv) :
    Calls Try.prog 44 #[.slice a ps.length c, .slice a' rs.length c', .func (.func 45) #[] #[]] w fun e w' => e = .returned (.bool true) ∧ Below w.heap.size w w' := by
  have hlen : rs.length = ps.length := by have h := congrArg List.length he; rw [List.length_map, List.length_map] at h; exact h.symm
  have hrl := hu.len
  have HU := Lib.hid (fun (wr : World) (hb : Below w.heap.size w wr) k hk => (hu.below hb).cells k hk)
  have HV := Lib.hid (fun (wr : World) (hb : Below w.heap.size w wr) k hk => (hv.below hb).cells k hk)
  have HS : Hid (∀ (wr : World), Below w.heap.size w wr → ∀ k (hk : k < ps.length) (hk' : k < rs.length), Calls Try.prog 45 #[.agg #[.int .i64 ps[k].node, .slice ps[k].a ps[k].vs.length ps[k].c], .agg #[.int .i64 rs[k].node, .slice rs[k].a rs[k].vs.length rs[k].c]] wr fun e w' => e = .returned (.bool true) ∧ Below wr.heap.size wr w') := by
    intro wr hb k hk hk'
    have e : pv ps[k] = pv rs[k] := by
      have e1 : (ps.map pv)[k]? = (rs.map pv)[k]? := by rw [he]
      simpa [hk, hk'] using e1
    exact aone_any wr ps[k] rs[k] ((hu.below hb).good _ (List.getElem_mem hk)) ((hv.below hb).good _ (List.getElem_mem hk')) e
  clear hu hv he
  rw [hlen]
  have hlen' := Lib.hid hlen
  clear hlen
  go_enter Try.func44, Try.ntmps44
  go_wp2_with fail
  go_loopw [7] (fun i wr => ∃ k : Nat, k ≤ ps.length ∧ i = .int .i64 k ∧ Hid (Below w.heap.size w wr)) (fun i _ => ps.length - (RowKit.intOf i).toNat)
  case atStart => exact ⟨0, Nat.zero_le _, rfl, Below.refl _ _⟩
  case round =>
    obtain ⟨k, hk, rfl, hB⟩ := hrel
    by_cases hlt : k < ps.length
    · have hlt' : k < rs.length := by rw [hlen'.out]; exact hlt
      have hBd := below_step hB.out (below_drewN (Below.refl _ wr) 1)
      obtain ⟨g, off, rfl, hgz, q0, q1⟩ := HU.out wr hB.out k hlt
      obtain ⟨g', off', rfl, hgz', p0, p1⟩ := HV.out wr hB.out k hlt'
      have HC := Lib.hid (HS.out _ hBd k hlt hlt')
      have HBd := Lib.hid hBd
      obtain ⟨r, hr⟩ : ∃ r, r = rs[k] := ⟨_, rfl⟩
      obtain ⟨p, hp⟩ : ∃ p, p = ps[k] := ⟨_, rfl⟩
      rw [← hr] at p0 p1 HC
      rw [← hp] at q0 q1 HC
      clear hBd hr hp hlt'
      go_wp2_with fail
      go_still_tail 9, (by kernel_rfl)
      change wpList _ _ _ _ _ wr.drew
      go_wp2_with fail
      refine HC.out.mono ?_; rintro e w4 ⟨rfl, hb4⟩
      have HB4 := Lib.hid (below_step HBd.out hb4)
      clear hb4
      go_wp2_with fail
      go_roundw
      case rel => exact ⟨k + 1, by omega, by go_num, HB4⟩
      case measure => simp [RowKit.intOf]; omega
    · obtain rfl : k = ps.length := by omega
      go_wp2_with fail
      go_ret
      exact ⟨rfl, hB.out⟩
theorem alike_ok (w : World) (a a' : Option Addr) (c c' : Nat) (ps rs : List Pt) (hu : RowP w a ps) (hv : RowP w a' rs) (he : ps.map pv = rs.map pv) :
    Calls Try.prog 16 #[.slice a ps.length c, .slice a' rs.length c'] w fun e w' => e = .returned (.bool true) ∧ Below w.heap.size w w' := by
  have HS := Lib.hid (same_prs w a a' c c' ps rs hu hv he)
  clear hu hv he
  go_enter Try.func16, Try.ntmps16
  go_wp2_with fail
  refine HS.out.mono ?_; rintro e w1 ⟨rfl, hb1⟩
  go_wp2_with fail
  go_ret
  exact ⟨rfl, hb1⟩
end Go.Proofs.Ytodoncmielfbeaa.chw
