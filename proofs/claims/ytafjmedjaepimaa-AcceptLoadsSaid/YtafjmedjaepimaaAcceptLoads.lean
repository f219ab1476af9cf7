/-
  AcceptLoads: which promises and votes may be loaded; what was loaded goes on as the document says.
-/
import Derived.Test.YtafjmedjaepimaaAccO
import Derived.Test.YtafjmedjaepimaaChecked
import Derived.Test.YtafjmedjaepimaaRows
namespace Go.Proofs.Ytafjmedjaepimaa.acceptLoads
open Go.ChangeShapes Go.WideShapes Go.ChangeAt Go.RowKit Go.Joins
open Go.Proofs.Ytafjmedjaepimaa.kit Go.Proofs.Ytafjmedjaepimaa.mapkit Go.Proofs.Ytafjmedjaepimaa.byt Go.Proofs.Ytafjmedjaepimaa.own Go.Proofs.Ytafjmedjaepimaa.accd Go.Proofs.Ytafjmedjaepimaa.acca Go.Proofs.Ytafjmedjaepimaa.accb Go.Proofs.Ytafjmedjaepimaa.acck Go.Proofs.Ytafjmedjaepimaa.acce Go.Proofs.Ytafjmedjaepimaa.accf Go.Proofs.Ytafjmedjaepimaa.accg Go.Proofs.Ytafjmedjaepimaa.acch Go.Proofs.Ytafjmedjaepimaa.acci Go.Proofs.Ytafjmedjaepimaa.accj Go.Proofs.Ytafjmedjaepimaa.accr Go.Proofs.Ytafjmedjaepimaa.accl Go.Proofs.Ytafjmedjaepimaa.acct Go.Proofs.Ytafjmedjaepimaa.accu Go.Proofs.Ytafjmedjaepimaa.accv Go.Proofs.Ytafjmedjaepimaa.accw Go.Proofs.Ytafjmedjaepimaa.accx Go.Proofs.Ytafjmedjaepimaa.accy Go.Proofs.Ytafjmedjaepimaa.accq Go.Proofs.Ytafjmedjaepimaa.accm Go.Proofs.Ytafjmedjaepimaa.acco
set_option linter.unusedVariables false
set_option linter.unusedSimpArgs false
set_option maxHeartbeats 4000000
set_option maxRecDepth 100000

theorem eqBallot (w : World) (a b c d : Int) : (binOp .eql 28 (.agg #[.int .i64 a, .int .i64 b]) (.agg #[.int .i64 c, .int .i64 d])).run Try.prog w = .ok (.bool (a == c && b == d)) w := by
  cases h : (a == c) <;> cases h2 : (b == d) <;> go_simp
theorem first_b (w : World) (base b mb : Nat) (A : AS) (h : AccIs w base b mb A) : Calls Try.prog 18 #[.pointer (some ⟨b, 0, none⟩)] w fun e w' => e = .returned (.int .i64 A.first) ∧ Below w.heap.size w w' := by
  refine (first_ok w base b mb A h).mono ?_
  rintro e w' ⟨rfl, rfl⟩
  exact ⟨rfl, Below.refl _ _⟩
/-- A list of votes that is being overwritten: what is left of it. -/
structure Scr (N M : Nat) (gr : Nat) (qs : List Vt) (W : World) : Prop where
  lo : N ≤ gr ∧ gr < M
  row : ∃ cs : Array Value, W.heap[gr]? = some (.cells cs 38 (0, 0)) ∧ ∀ i (hi : i < qs.length), cs[i * 4 + 3]? = some (.slice qs[i].a qs[i].l.length qs[i].c) ∧ i * 4 < cs.size
  body : ∀ x ∈ qs, 0 < x.l.length → ∃ g, ∃ cs : Array Value, x.a = some ⟨g, 0, none⟩ ∧ (N ≤ g ∧ g < M) ∧ W.heap[g]? = some (.cells cs 5 (0, 0)) ∧ x.l.length ≤ cs.size
theorem Scr.body_put {N M gr : Nat} {qs : List Vt} {W : World} (h : Scr N M gr qs W) {g : Nat} {cs : Array Value} (hg : W.heap[g]? = some (.cells cs 5 (0, 0))) (k : Nat) (v : Value) : Scr N M gr qs (W.setCell ⟨g, k, none⟩ v) := by
  obtain ⟨rc, hr, hrc⟩ := h.row
  have hne : gr ≠ g := by
    intro e
    rw [e, hg] at hr
    simp at hr
  refine ⟨h.lo, ⟨rc, (hp_set_ne hne).trans hr, hrc⟩, fun x hx hl => ?_⟩
  obtain ⟨g', cs', h1, h2, h3, h4⟩ := h.body x hx hl
  by_cases e : g' = g
  · subst e
    exact ⟨g', _, h1, h2, hp_set h3 k v, by simpa using h4⟩
  · exact ⟨g', cs', h1, h2, (hp_set_ne e).trans h3, h4⟩
theorem Scr.row_put {N M gr : Nat} {qs : List Vt} {W : World} (h : Scr N M gr qs W) (i : Nat) (v : Value) : Scr N M gr qs (W.setCell ⟨gr, i * 4, none⟩ v) := by
  obtain ⟨rc, hr, hrc⟩ := h.row
  refine ⟨h.lo, ⟨_, hp_set hr (i * 4) v, fun j hj => ?_⟩, fun x hx hl => ?_⟩
  · obtain ⟨h1, h2⟩ := hrc j hj
    refine ⟨?_, by simpa using h2⟩
    rw [Array.getElem?_setIfInBounds_ne (by omega)]
    exact h1
  · obtain ⟨g', cs', h1, h2, h3, h4⟩ := h.body x hx hl
    have hne : g' ≠ gr := by
      intro e
      rw [e, hr] at h3
      simp at h3
    exact ⟨g', cs', h1, h2, (hp_set_ne hne).trans h3, h4⟩
theorem Scr.below {N M gr : Nat} {qs : List Vt} {W W' : World} (h : Scr N M gr qs W) (hb : Below W.heap.size W W') : Scr N M gr qs W' := by
  obtain ⟨rc, hr, hrc⟩ := h.row
  refine ⟨h.lo, ⟨rc, hp_step hr hb, hrc⟩, fun x hx hl => ?_⟩
  obtain ⟨g', cs', h1, h2, h3, h4⟩ := h.body x hx hl
  exact ⟨g', cs', h1, h2, hp_step h3 hb, h4⟩
theorem scr_of {w w' : World} {a : Option Addr} {c : Nat} {qs : List Vt} (h : w'.ownsRow w.heap.size 38 4 (.slice a qs.length c) qs.length (vcells qs)) (hb : ∀ x ∈ qs, accd.Body w' w.heap.size x) (hq : 0 < qs.length) : ∃ g, a = some ⟨g, 0, none⟩ ∧ Scr w.heap.size w'.heap.size g qs w' := by
  obtain ⟨g, rfl⟩ := own_ptr h hq
  obtain ⟨cur, hcur⟩ := own_heap h g rfl
  refine ⟨g, rfl, own_from h g rfl, ⟨cur, hcur, fun i hi => ?_⟩, fun x hx hl => ?_⟩
  · obtain ⟨h0, -, -, h3⟩ := vt_cells h hi
    have hb := kit.blk hcur
    rw [hb.1] at h0 h3
    exact ⟨h3, (Array.getElem?_eq_some_iff.1 h0).1⟩
  · have hx := hb x hx
    obtain ⟨g', hg'⟩ := own_ptr hx hl
    obtain ⟨cur', hcur'⟩ := own_heap hx g' hg'
    refine ⟨g', cur', hg', own_from hx g' hg', hcur', ?_⟩
    have hL := (body_lie hx).1
    rcases hL with h0 | ⟨g2, off, e2, hz2, hc2⟩
    · have h1 := congrArg List.length h0
      rw [bcells_len] at h1
      simp only [List.length_nil] at h1
      omega
    · rw [hg'] at e2
      simp only [Option.some.injEq, Addr.mk.injEq, and_true] at e2
      obtain ⟨rfl, rfl⟩ := e2
      have h9 := hc2 (x.l.length - 1) (by rw [bcells_len]; omega)
      rw [(kit.blk hcur').1, bcells_get (by omega)] at h9
      have := (Array.getElem?_eq_some_iff.1 h9).1
      omega
/-- What lies from base on stays while older blocks are written. -/
theorem own_over {ws W : World} {N M base : Nat} {e : TypeId} {size n c : Nat} {a : Option Addr} {xs : List Value} (h : ws.ownsRow base e size (.slice a n c) n xs) (hk : Keep (fun k => N ≤ k ∧ k < M) ws W) (hm : M ≤ base) : W.ownsRow base e size (.slice a n c) n xs :=
  own_kept h (fun g hg => hk.block g (own_from h g hg).2 (fun hs => by have := (own_from h g hg).1; have := hs.2; omega))
theorem acc_over {ws W : World} {N base b mb : Nat} {A : AS} (h : AccIs ws base b mb A) (hk : Keep (fun k => N ≤ k ∧ k < base) ws W) : AccIs W base b mb A := by
  obtain ⟨vs, h1, h2⟩ := h
  have hl := h1.lo
  exact ⟨vs, ⟨hk.hp h1.blk (fun hs => by have := hs.2; omega), h1.map.keep hk (fun hs => by have := hs.2; omega), h1.lo, h1.ord, h1.one, h1.rng, h1.fit, fun v hv => own_over (h1.bodies v hv) hk (Nat.le_refl _)⟩, h2⟩
theorem acc_mono {W : World} {base base' b mb : Nat} {A : AS} (h : AccIs W base b mb A) (hb : base' ≤ base) : AccIs W base' b mb A := by
  obtain ⟨vs, h1, h2⟩ := h
  have hl := h1.lo
  exact ⟨vs, ⟨h1.blk, h1.map, ⟨by omega, by omega⟩, h1.ord, h1.one, h1.rng, h1.fit, fun v hv => own_mono (h1.bodies v hv) hb⟩, h2⟩
theorem loada_not (w : World) (r n first : Int) (a : Option Addr) (c : Nat) (vs : List Vt) (hrow : RowV w (.slice a vs.length c) vs) (h : ¬ okL r n first (vs.map lv)) (hsl : ∀ v ∈ vs, -9223372036854775808 ≤ v.s ∧ v.s ≤ 9223372036854775807) :
    Calls Try.prog 27 #[.agg #[.int .i64 r, .int .i64 n], .int .i64 first, .slice a vs.length c] w fun e w' => e = .returned (.tuple #[.pointer none, .int .i64 21]) ∧ Below w.heap.size w w' := by
  have hc : Calls Try.prog 27 #[.agg #[.int .i64 r, .int .i64 n], .int .i64 first, .slice a vs.length c] w (LoadR w r n first (vs.map lv)) := by
    by_cases hh : okH r n first
    · exact load_yes w r n first a c vs hrow hh hsl
    · exact load_no w r n first _ _ hh
  refine hc.mono ?_
  rintro e w' ⟨hb, ⟨h1, -⟩ | ⟨-, h2⟩⟩
  · exact absurd h1 h
  · exact ⟨h2, hb⟩
theorem loada_ok (w : World) (r n first : Int) (a : Option Addr) (c : Nat) (vs : List Vt) (hrow : RowV w (.slice a vs.length c) vs) (h : okL r n first (vs.map lv)) (hsl : ∀ v ∈ vs, -9223372036854775808 ≤ v.s ∧ v.s ≤ 9223372036854775807) :
    Calls Try.prog 27 #[.agg #[.int .i64 r, .int .i64 n], .int .i64 first, .slice a vs.length c] w fun e w' => ∃ b mb, e = .returned (.tuple #[.pointer (some ⟨b, 0, none⟩), .int .i64 0]) ∧ AccIs w' w.heap.size b mb ⟨r, n, first, vs.map lv⟩ ∧ (w.heap.size ≤ b ∧ w.heap.size ≤ mb) ∧ Below w.heap.size w w' := by
  refine (load_yes w r n first a c vs hrow h.1 hsl).mono ?_
  rintro e w' ⟨hb, ⟨-, b, mb, h1, h2, h3, h4⟩ | ⟨h1, -⟩⟩
  · exact ⟨b, mb, h1, h4, ⟨h2, h3⟩, hb⟩
  · exact absurd h h1
theorem loadr_not (w : World) (r n first : Int) (a : Option Addr) (c : Nat) (vs : List Vt) (hrow : RowV w (.slice a vs.length c) vs) (hvl : vs.length ≤ 2932031007402) (h : ¬ okL r n first (vs.map lv)) (hsl : ∀ v ∈ vs, -9223372036854775808 ≤ v.s ∧ v.s ≤ 9223372036854775807) :
    Calls Try.prog 28 #[.agg #[.int .i64 r, .int .i64 n], .int .i64 first, .slice a vs.length c] w fun e w' => e = .returned (.pointer none) ∧ Below w.heap.size w w' := by
  have hc : Calls Try.prog 28 #[.agg #[.int .i64 r, .int .i64 n], .int .i64 first, .slice a vs.length c] w (RLoadR w r n first vs) := by
    by_cases hh : okH r n first
    · exact rload_yes w r n first a c vs hrow hvl hh hsl
    · exact rload_no w r n first _ _ hh
  refine hc.mono ?_
  rintro e w' ⟨hb, ⟨h1, -⟩ | ⟨-, h2⟩⟩
  · exact absurd h1 h
  · exact ⟨h2, hb⟩
theorem loadr_ok (w : World) (r n first : Int) (a : Option Addr) (c : Nat) (vs : List Vt) (hrow : RowV w (.slice a vs.length c) vs) (hvl : vs.length ≤ 2932031007402) (h : okL r n first (vs.map lv)) (hsl : ∀ v ∈ vs, -9223372036854775808 ≤ v.s ∧ v.s ≤ 9223372036854775807) :
    Calls Try.prog 28 #[.agg #[.int .i64 r, .int .i64 n], .int .i64 first, .slice a vs.length c] w fun e w' => ∃ br a' c', e = .returned (.pointer (some ⟨br, 0, none⟩)) ∧ w.heap.size ≤ br ∧ w'.heap[br]? = some (.cells #[.int .i64 r, .int .i64 n, .int .i64 first, .slice a' vs.length c'] 49 (0, 0)) ∧ w'.ownsRow w.heap.size 38 4 (.slice a' vs.length c') vs.length (vcells vs) ∧ Below w.heap.size w w' := by
  refine (rload_yes w r n first a c vs hrow hvl h.1 hsl).mono ?_
  rintro e w' ⟨hb, ⟨-, br, a', c', h1, h2, h3, h4⟩ | ⟨h1, -⟩⟩
  · exact ⟨br, a', c', h1, h2, h3, h4, hb⟩
  · exact absurd h h1
/-- What CopyVotes tells, as a row that can be read. -/
theorem told_rowv {w w' : World} {a : Option Addr} {c : Nat} {xs : List Vt} (hr : w'.ownsRow w.heap.size 38 4 (.slice a xs.length c) xs.length (vcells xs)) (hb : ∀ x ∈ xs, accd.Body w' w.heap.size x) (hl : ∀ x ∈ xs, x.l.length ≤ 140737488355328) : RowV w' (.slice a xs.length c) xs :=
  ⟨⟨_, a, c, rfl, hr⟩, fun x hx => body_rd (hb x hx) (hl x hx)⟩
theorem len_of {vs xs : List Vt} (h : xs.map lv = vs.map lv) {n : Nat} (hv : ∀ x ∈ vs, x.l.length ≤ n) : ∀ x ∈ xs, x.l.length ≤ n := by
  intro x hx
  have h1 : lv x ∈ vs.map lv := by rw [← h]; exact List.mem_map_of_mem hx
  obtain ⟨y, hy, e⟩ := List.mem_map.1 h1
  have h2 := hv y hy
  have e2 : (lv y).l = (lv x).l := by rw [e]
  have e3 : y.l = x.l := e2
  rw [← e3]; exact h2
theorem slot_of {vs xs : List Vt} (h : xs.map lv = vs.map lv) (hv : ∀ x ∈ vs, -9223372036854775808 ≤ x.s ∧ x.s ≤ 9223372036854775807) : ∀ x ∈ xs, -9223372036854775808 ≤ x.s ∧ x.s ≤ 9223372036854775807 := by
  intro x hx
  have h1 : lv x ∈ vs.map lv := by rw [← h]; exact List.mem_map_of_mem hx
  obtain ⟨y, hy, e⟩ := List.mem_map.1 h1
  have h2 := hv y hy
  have e2 : (lv y).s = (lv x).s := by rw [e]
  have e3 : y.s = x.s := e2
  rw [← e3]; exact h2

theorem loads_ok (w : World) (r n first : Int) (av : Option Addr) (vs : List Vt) (cv : Nat) (hv : RowC w av vs) (hfr : -9223372036854775808 ≤ first ∧ first ≤ 9223372036854775807)
    (a : Option Addr) (l : List OpV) (cap : Nat) (hl : l.length ≤ 9223372036854775807) (hat : RowsAt w a 5 (l.map ocells)) (hok : ∀ k (hk : k < l.length), GoodO w (l[k])) (hol : ∀ k (hk : k < l.length), (l[k]).l.length ≤ 140737488351232) :
    Calls Try.prog 8 #[.agg #[.int .i64 r, .int .i64 n], .int .i64 first, .slice av vs.length cv, .slice a l.length cap] w fun e w' => e = .returned (.bool true) ∧ Below w.heap.size w w' := by
  have HR := Lib.hid (fun (wr : World) (hb : Below w.heap.size w wr) k hk => row_op (hat.below hb) k hk)
  have HOK := Lib.hid hok
  have HOL := Lib.hid hol
  have HVC := Lib.hid (fun (wr : World) (hb : Below w.heap.size w wr) => hv.below hb)
  have HVL : Hid (∀ x ∈ vs, x.l.length ≤ 140737488355328) := fun x hx => by have := (hv.good x hx).len; omega
  have HVS : Hid (∀ x ∈ vs, -9223372036854775808 ≤ x.s ∧ x.s ≤ 9223372036854775807) := fun x hx => (hv.good x hx).slot
  have hvlen := hv.len
  obtain ⟨w1, hw1⟩ : ∃ w1, w1 = w.alloc (.cells #[.int .i64 r, .int .i64 n] 28) := ⟨_, rfl⟩
  have hb1 : Below w.heap.size w w1 := by rw [hw1]; exact below_new1 _ _
  have hn1 : w1.heap[w.heap.size]? = some (.cells #[.int .i64 r, .int .i64 n] 28 (0, 0)) := by rw [hw1]; exact hp_alloc_new _ _
  obtain ⟨pb, hpb⟩ : ∃ pb, pb = w.heap.size := ⟨_, rfl⟩
  rw [← hpb] at hn1
  have HC1 := Lib.hid (copyv_ok w1 av cv vs (hv.below hb1))
  have HB1 := Lib.hid hb1
  have HN1 := Lib.hid hn1
  have HW1 := Lib.hid hw1
  have HPB := Lib.hid hpb
  clear hat hok hol hv hb1 hn1 hw1 hpb
  go_enter Try.func8, Try.ntmps8
  go_upto_region 1 with fail
  rw [← HW1.out, ← HPB.out]
  clear HW1
  go_wp2_with fail
  refine HC1.out.mono ?_; rintro e w2 ⟨v1, rfl, ⟨a1, c1, xs, rfl, hxs, hrow1, hbod1⟩, hb2⟩
  have hxlen : xs.length ≤ 2932031007402 := by have h := congrArg List.length hxs; rw [List.length_map, List.length_map] at h; omega
  have hb02 := below_step HB1.out hb2
  have hn2 := hp_step HN1.out hb2
  obtain ⟨p0, p1, -, -, pz⟩ := blk2 hn2
  have hR2 := told_rowv hrow1 hbod1 (len_of hxs HVL.out)
  have HSC := Lib.hid (fun hq => scr_of hrow1 hbod1 hq)
  have HR2 := Lib.hid hR2
  have HB2 := Lib.hid hb02
  have HN2 := Lib.hid hn2
  have HXS := Lib.hid hxs
  have HS12 : Hid (w.heap.size ≤ w1.heap.size ∧ w1.heap.size ≤ w2.heap.size) := ⟨HB1.out.size, hb2.size⟩
  clear hxs hrow1 hbod1 hb2 hb02 hn2 hR2 HC1 HN1 HB1
  by_cases hokl : okL r n first (vs.map lv)
  case neg =>
    have HLA := Lib.hid (loada_not w2 r n first a1 c1 xs HR2.out (by rw [HXS.out]; exact hokl) (slot_of HXS.out HVS.out))
    have HNO := Lib.hid hokl
    clear hokl
    go_wp2_with fail
    refine HLA.out.mono ?_; rintro e w3 ⟨rfl, hb3⟩
    have hb03 := below_step HB2.out hb3
    have hbd : Below w3.heap.size w3 w3.drew := below_drewN (Below.refl _ w3) 1
    obtain ⟨x0, x1, -, -, xz⟩ := blk2 (hp_step (hp_step HN2.out hb3) hbd)
    have HBD := Lib.hid (below_step hb03 hbd)
    have HC4 := Lib.hid (copyv_ok w3.drew av cv vs (HVC.out _ (below_step hb03 hbd)))
    have HR3 := Lib.hid ((HR2.out.below hb3).below hbd)
    clear hb3 hb03 hbd HLA p0 p1 pz
    go_wp2_with fail
    go_region_held3 (fun w' => w'.cell? ⟨pb, 0, none⟩ = some (.int .i64 r) ∧ w'.cell? ⟨pb, 1, none⟩ = some (.int .i64 n)) (first | (exact ⟨x0, x1⟩) | (exact ⟨y0, y1⟩) | (exact ⟨z0, z1⟩)) (first | (go_at_call 26; refine HC4.out.mono ?_; rintro e w4 ⟨v4, rfl, ⟨a4, c4, zs, rfl, hzs, hrow4, hbod4⟩, hb4⟩; have hR4 := told_rowv hrow4 hbod4 (len_of hzs HVL.out); have hzl : zs.length ≤ 2932031007402 := (by have h := congrArg List.length hzs; rw [List.length_map, List.length_map] at h; omega); have HLR := Lib.hid (loadr_not w4 r n first a4 c4 zs hR4 hzl (by rw [hzs]; exact HNO.out) (slot_of hzs HVS.out)); have HB4 := Lib.hid (below_step HBD.out hb4); have HR4 := Lib.hid (HR3.out.below hb4); have y0 := cell_step x0 hb4; have y1 := cell_step x1 hb4; clear hzs hrow4 hbod4 hR4 hb4) | (go_at_call 28; refine HLR.out.mono ?_; rintro e w5 ⟨rfl, hb5⟩; have HB5 := Lib.hid (below_step HB4.out hb5); have HR5 := Lib.hid (HR4.out.below hb5); have z0 := cell_step y0 hb5; have z1 := cell_step y1 hb5; clear hb5))
    go_wp2_with fail
    refine (awake_any _).mono ?_; rintro e w6 ⟨rfl, hb6⟩
    have HB6 := Lib.hid (below_step HB5.out hb6)
    have HSM := Lib.hid (votes_eqc w6 _ av cv xs vs (HR5.out.below hb6) (HVC.out _ (below_step HB5.out hb6)) HXS.out)
    clear hb6
    go_wp2_with fail
    refine HSM.out.mono ?_; rintro e w7 ⟨rfl, hb7⟩
    have HB7 := Lib.hid (below_step HB6.out hb7)
    clear hb7 HSM
    go_wp2_with fail
    go_ret
    exact ⟨rfl, HB7.out⟩
  have hfit : ∀ x ∈ vs, x.l.length ≤ 2048 := by
    intro x hx
    obtain ⟨k, hk, rfl⟩ := List.getElem_of_mem hx
    have h := (hokl.2 k (by rw [List.length_map]; exact hk)).2.2.2.2
    simpa [lv] using h
  have HFIT := Lib.hid (len_of HXS.out hfit)
  have HLA := Lib.hid (loada_ok w2 r n first a1 c1 xs HR2.out (by rw [HXS.out]; exact hokl) (slot_of HXS.out HVS.out))
  have HYES := Lib.hid hokl
  clear hokl hfit
  go_wp2_with fail
  refine HLA.out.mono ?_; rintro e w3 ⟨b, mb, rfl, hA3, ⟨hbb, hmb⟩, hb3⟩
  rw [HXS.out] at hA3
  have hb03 := below_step HB2.out hb3
  have hbd : Below w3.heap.size w3 w3.drew := below_drewN (Below.refl _ w3) 1
  obtain ⟨x0, x1, -, -, xz⟩ := blk2 (hp_step (hp_step HN2.out hb3) hbd)
  have HBD := Lib.hid (below_step hb03 hbd)
  have HC4 := Lib.hid (copyv_ok w3.drew av cv vs (HVC.out _ (below_step hb03 hbd)))
  have HR3 := Lib.hid ((HR2.out.below hb3).below hbd)
  have HA3 := Lib.hid (AccIs.below hA3 hbd)
  have HB23 := Lib.hid (below_step hb3 hbd)
  clear hb3 hb03 hbd HLA p0 p1 pz hA3
  go_wp2_with fail
  go_region_held3 (fun w' => w'.cell? ⟨pb, 0, none⟩ = some (.int .i64 r) ∧ w'.cell? ⟨pb, 1, none⟩ = some (.int .i64 n)) (first | (exact ⟨x0, x1⟩) | (exact ⟨y0, y1⟩) | (exact ⟨z0, z1⟩)) (first | (go_at_call 26; refine HC4.out.mono ?_; rintro e w4 ⟨v4, rfl, ⟨a4, c4, zs, rfl, hzs, hrow4, hbod4⟩, hb4⟩; have hR4 := told_rowv hrow4 hbod4 (len_of hzs HVL.out); have hzl : zs.length ≤ 2932031007402 := (by have h := congrArg List.length hzs; rw [List.length_map, List.length_map] at h; omega); have HLR := Lib.hid (loadr_ok w4 r n first a4 c4 zs hR4 hzl (by rw [hzs]; exact HYES.out) (slot_of hzs HVS.out)); have HB4 := Lib.hid (below_step HBD.out hb4); have HR4 := Lib.hid (HR3.out.below hb4); have HA4 := Lib.hid (AccIs.below HA3.out hb4); have HBOD4 := Lib.hid hbod4; have HZS := Lib.hid hzs; have HB24 := Lib.hid (below_step HB23.out hb4); have y0 := cell_step x0 hb4; have y1 := cell_step x1 hb4; have hs34 := hb4.size; clear hzs hrow4 hbod4 hR4 hb4) | (go_at_call 28; refine HLR.out.mono ?_; rintro e w5 ⟨br, a5, c5, rfl, hbr, hblk5, hrow5, hb5⟩; have HB5 := Lib.hid (below_step HB4.out hb5); have HR5 := Lib.hid (HR4.out.below hb5); have HA5 := Lib.hid (AccIs.below HA4.out hb5); have HBOD5 := Lib.hid (fun x hx => own_below (HBOD4.out x hx) hb5); have HB25 := Lib.hid (below_step HB24.out hb5); have HBLK5 := Lib.hid hblk5; have HROW5 := Lib.hid hrow5; have z0 := cell_step y0 hb5; have z1 := cell_step y1 hb5; clear hb5 hblk5 hrow5))
  go_wp2_with fail
  refine (awake_any _).mono ?_; rintro e w6 ⟨rfl, hb6⟩
  have HB6 := Lib.hid (below_step HB5.out hb6)
  have HB26 := Lib.hid (below_step HB25.out hb6)
  have HR6 := Lib.hid (HR5.out.below hb6)
  have HSM := Lib.hid (votes_eqc w6 _ av cv xs vs HR6.out (HVC.out _ HB6.out) HXS.out)
  have HA6 := Lib.hid (AccIs.below HA5.out hb6)
  have HBOD6 := Lib.hid (fun x hx => own_below (HBOD5.out x hx) hb6)
  have HBLK6 := Lib.hid (hp_step HBLK5.out hb6)
  have HROW6 := Lib.hid (own_below HROW5.out hb6)
  clear hb6 HB5 HR5 HA5 HBOD5 HBLK5 HROW5
  go_wp2_with fail
  refine HSM.out.mono ?_; rintro e ws ⟨rfl, hb7⟩
  have HB7 := Lib.hid (below_step HB6.out hb7)
  have HA7 := Lib.hid (AccIs.below HA6.out hb7)
  have HBOD7 := Lib.hid (fun x hx => own_below (HBOD6.out x hx) hb7)
  have HBLK7 := Lib.hid (hp_step HBLK6.out hb7)
  have HROW7 := Lib.hid (own_below HROW6.out hb7)
  have HSC7 : Hid (0 < xs.length → ∃ g, a1 = some ⟨g, 0, none⟩ ∧ Scr w1.heap.size w2.heap.size g xs ws) := fun hq => (HSC.out hq).imp fun g hg => ⟨hg.1, hg.2.below (below_step HB26.out hb7)⟩
  clear hb7 HSM HB6 HA6 HBOD6 HBLK6 HROW6 HSC HR2 HR3 HR4 HR6 x0 x1 y0 y1 z0 z1
  have hs23 := HB23.out.size
  have hs34' := hs34
  go_wp2_with fail
  go_loopw [13] (fun i wz => ∃ m : Nat, m ≤ xs.length ∧ i = .int .i64 m ∧ Hid (Keep (fun k => w1.heap.size ≤ k ∧ k < w2.heap.size) ws wz) ∧ Hid (0 < xs.length → ∃ g, a1 = some ⟨g, 0, none⟩ ∧ Scr w1.heap.size w2.heap.size g xs wz)) (fun i _ => xs.length - (intOf i).toNat)
  case atStart => exact ⟨0, Nat.zero_le _, rfl, (Keep.refl _ _ : Keep (fun k => w1.heap.size ≤ k ∧ k < w2.heap.size) ws ws), HSC7⟩
  case round =>
    obtain ⟨wo, rfl⟩ : ∃ wo : World, wo = wr := ⟨_, rfl⟩
    obtain ⟨m, hm, rfl, HKZ, HSZ⟩ := hrel
    by_cases hml : m < xs.length
    · obtain ⟨g, rfl, hsc⟩ := HSZ.out (by omega)
      have HSCC := Lib.hid hsc
      obtain ⟨x, hx⟩ : ∃ x, x = xs[m] := ⟨_, rfl⟩
      have HROWC : Hid (∀ wx, Scr w1.heap.size w2.heap.size g xs wx → wx.cell? ⟨g, m * 4 + 3, none⟩ = some (.slice x.a x.l.length x.c) ∧ (∃ v, wx.cell? ⟨g, m * 4, none⟩ = some v) ∧ wx.frozen? ⟨g, m * 4, none⟩ = false ∧ g < wx.heap.size) := by
        intro wx h
        obtain ⟨rc, hr, hrc⟩ := h.row
        obtain ⟨h1, h2⟩ := hrc m hml
        have hb := kit.blk hr
        refine ⟨by rw [hb.1, h1, hx], ⟨rc[m * 4], by rw [hb.1]; exact Array.getElem?_eq_getElem h2⟩, hb.2.1 _, hb.2.2⟩
      have HBODY : Hid (∀ wx, Scr w1.heap.size w2.heap.size g xs wx → 0 < x.l.length → ∃ gb, ∃ cs : Array Value, x.a = some ⟨gb, 0, none⟩ ∧ (w1.heap.size ≤ gb ∧ gb < w2.heap.size) ∧ wx.heap[gb]? = some (.cells cs 5 (0, 0)) ∧ x.l.length ≤ cs.size) := by
        intro wx h
        rw [hx]
        exact h.body _ (List.getElem_mem hml)
      have hxcap : x.l.length ≤ 2048 := by rw [hx]; exact HFIT.out _ (List.getElem_mem hml)
      clear hx hsc HSZ
      go_wp2_with fail
      go_loopw [14] (fun i wz => ∃ j : Nat, j ≤ x.l.length ∧ i = .int .i64 j ∧ Hid (Keep (fun k => w1.heap.size ≤ k ∧ k < w2.heap.size) ws wz) ∧ Hid (Scr w1.heap.size w2.heap.size g xs wz)) (fun i _ => x.l.length - (intOf i).toNat)
      case atStart => exact ⟨0, Nat.zero_le _, rfl, HKZ, HSCC⟩
      case round =>
        obtain ⟨wo2, rfl⟩ : ∃ wo2 : World, wo2 = wr := ⟨_, rfl⟩
        obtain ⟨j, hj, rfl, HKJ, HSJ⟩ := hrel
        obtain ⟨q3, ⟨v0, q0⟩, f0, hgz⟩ := HROWC.out wo2 HSJ.out
        by_cases hjl : j < x.l.length
        · obtain ⟨gb, cs, hxa, hgb, hcs, hcl⟩ := HBODY.out wo2 HSJ.out (by omega)
          have hbk := kit.blk hcs
          have u0 : wo2.cell? ⟨gb, j, none⟩ = some (cs[j]'(by omega)) := by rw [hbk.1]; exact Array.getElem?_eq_getElem (by omega)
          have uf : wo2.frozen? ⟨gb, j, none⟩ = false := hbk.2.1 _
          have ugz := hbk.2.2
          have HS2 := Lib.hid (HSJ.out.body_put hcs j (.int .u8 97))
          have HK2 := Lib.hid (HKJ.out.setCell (p := ⟨gb, j, none⟩) (.inr hgb) (.int .u8 97))
          rw [hxa] at q3
          clear hbk hcs hxa hgb
          go_wp2_with fail
          go_roundw
          case rel => exact ⟨j + 1, by omega, by go_num, HK2, HS2⟩
          case measure => simp [intOf]; omega
        · obtain rfl : j = x.l.length := by omega
          have HS2 := Lib.hid (HSJ.out.row_put m (.int .i64 1))
          have HK2 := Lib.hid (HKJ.out.setCell (p := ⟨g, m * 4, none⟩) (.inr HSJ.out.lo) (.int .i64 1))
          go_wp2_with fail
          go_roundw
          case rel => exact ⟨m + 1, by omega, by go_num, HK2, fun _ => ⟨g, rfl, HS2.out⟩⟩
          case measure => simp [intOf]; omega
    · obtain rfl : m = xs.length := by omega
      have hs12 := HS12.out
      have HT0 : Hid (TwoL w wo wo b mb br ⟨r, n, first, vs.map lv⟩) := by
        refine ⟨acc_mono (acc_over HA7.out HKZ.out) (by omega), ⟨by omega, a5, c5, zs, HKZ.out.hp HBLK7.out (fun hs => by have := hs.2; omega), own_mono (own_over HROW7.out HKZ.out (by omega)) (by omega), HZS.out, fun x hx => body_rd (own_over (HBOD7.out x hx) HKZ.out (by omega)) (len_of HZS.out HVL.out x hx)⟩, HB7.out.trans (HKZ.out.below HB7.out.size (fun k hk hs => by have := hs.1; omega)), ⟨by omega, by omega⟩, fun x hx => hx, HB7.out.trans (HKZ.out.below HB7.out.size (fun k hk hs => by have := hs.1; omega))⟩
      clear HSZ HKZ HA7 HBLK7 HROW7 HBOD7 HB7 HSC7 HFIT HVL HVS HVC
      obtain ⟨A0, hA0⟩ : ∃ A0 : AS, A0 = ⟨r, n, first, vs.map lv⟩ := ⟨_, rfl⟩
      rw [← hA0] at HT0
      clear hA0
      go_wp2_with fail
      go_loopw [15] (fun i wr => ∃ k : Nat, k ≤ l.length ∧ i = .int .i64 k ∧ Hid (TwoL w wo wr b mb br (stOf A0 (l.take k)))) (fun i _ => l.length - (intOf i).toNat)
      case atStart => exact ⟨0, Nat.zero_le _, rfl, HT0⟩
      case round =>
        obtain ⟨k, hk, rfl, hT⟩ := hrel
        by_cases hlt : k < l.length
        · obtain ⟨g, off, rfl, hgz, r0, r1, r2, r3, r4⟩ := HR.out wr hT.out.below k hlt
          have HSN := Lib.hid (stOf_snoc A0 l k hlt)
          have hGO := HOK.out k hlt
          have hLO := HOL.out k hlt
          obtain ⟨o, ho⟩ : ∃ o, o = l[k] := ⟨_, rfl⟩
          rw [← ho] at r0 r1 r2 r3 r4 HSN hGO hLO
          obtain ⟨A, hA⟩ : ∃ A, A = stOf A0 (l.take k) := ⟨_, rfl⟩
          rw [← hA] at hT HSN
          have HST := Lib.hid (step_any w wo wr b mb br A o hT.out hGO hLO)
          clear ho hA hGO hLO
          go_wp2_with fail
          refine HST.out.mono ?_; rintro e w5 ⟨rfl, hT5⟩
          rw [← HSN.out] at hT5
          have HT5 := Lib.hid hT5
          clear hT5 HST
          go_wp2_with fail
          go_roundw
          case rel => exact ⟨k + 1, by omega, by go_num, HT5⟩
          case measure => simp [intOf]; omega
        · obtain rfl : k = l.length := by omega
          rw [List.take_length] at hT
          obtain ⟨A, hA⟩ : ∃ A, A = stOf A0 l := ⟨_, rfl⟩
          rw [← hA] at hT
          obtain ⟨-, ar, cr, qs, hblk, hrow, hqs, hqr⟩ := hT.out.ref
          have HT9 := hT
          have HRQ : Hid (RowV wr (.slice ar qs.length cr) qs) := ⟨⟨_, ar, cr, rfl, hrow⟩, fun x hx => hT.out.rd x (hqr x hx)⟩
          have HQS := Lib.hid hqs
          have hqe : ∀ w, (binOp .eql 28 (.agg #[.int .i64 A.r, .int .i64 A.n]) (.agg #[.int .i64 A.r, .int .i64 A.n])).run Try.prog w = .ok (.bool true) w := by
            intro w
            have h := eqBallot w A.r A.n A.r A.n
            simpa only [beq_self_eq_true, Bool.and_self] using h
          obtain ⟨x0, x1, x2, x3, xz⟩ := blk4 hblk
          clear hA hblk hrow hqs hqr hT HR HOK HOL
          go_wp2_with fail
          have hStab : ∀ Wx Wy : World, Below Wx.heap.size Wx Wy → (Wx.cell? ⟨br, 0, none⟩ = some (.int .i64 A.r) ∧ Wx.cell? ⟨br, 1, none⟩ = some (.int .i64 A.n) ∧ Wx.cell? ⟨br, 2, none⟩ = some (.int .i64 A.first) ∧ Wx.cell? ⟨br, 3, none⟩ = some (.slice ar qs.length cr) ∧ Below wr.heap.size wr Wx) → (Wy.cell? ⟨br, 0, none⟩ = some (.int .i64 A.r) ∧ Wy.cell? ⟨br, 1, none⟩ = some (.int .i64 A.n) ∧ Wy.cell? ⟨br, 2, none⟩ = some (.int .i64 A.first) ∧ Wy.cell? ⟨br, 3, none⟩ = some (.slice ar qs.length cr) ∧ Below wr.heap.size wr Wy) := by
            intro Wx Wy kk hs
            obtain ⟨s0, s1, s2, s3, s4⟩ := hs
            exact ⟨cell_step s0 kk, cell_step s1 kk, cell_step s2 kk, cell_step s3 kk, below_step s4 kk⟩
          have HhStab := Lib.hid hStab
          clear hStab
          have lV : Hid (∀ Wx : World, (Wx.cell? ⟨br, 0, none⟩ = some (.int .i64 A.r) ∧ Wx.cell? ⟨br, 1, none⟩ = some (.int .i64 A.n) ∧ Wx.cell? ⟨br, 2, none⟩ = some (.int .i64 A.first) ∧ Wx.cell? ⟨br, 3, none⟩ = some (.slice ar qs.length cr) ∧ Below wr.heap.size wr Wx) → Calls Try.prog 16 #[.pointer (some ⟨b, 0, none⟩)] Wx fun e w' => ∃ a c xs, e = .returned (.slice a xs.length c) ∧ RowV w' (.slice a xs.length c) xs ∧ xs.map lv = A.vs ∧ Below Wx.heap.size Wx w') := by
            intro Wx hs
            obtain ⟨s0, s1, s2, s3, s4⟩ := hs
            have hK := s4
            exact votes_row _ _ _ _ _ (AccIs.below HT9.out.acc hK)
          have lP : Hid (∀ Wx : World, (Wx.cell? ⟨br, 0, none⟩ = some (.int .i64 A.r) ∧ Wx.cell? ⟨br, 1, none⟩ = some (.int .i64 A.n) ∧ Wx.cell? ⟨br, 2, none⟩ = some (.int .i64 A.first) ∧ Wx.cell? ⟨br, 3, none⟩ = some (.slice ar qs.length cr) ∧ Below wr.heap.size wr Wx) → Calls Try.prog 21 #[.pointer (some ⟨b, 0, none⟩)] Wx fun e w' => e = .returned (.agg #[.int .i64 A.r, .int .i64 A.n]) ∧ Below Wx.heap.size Wx w') := by
            intro Wx hs
            obtain ⟨s0, s1, s2, s3, s4⟩ := hs
            have hK := s4
            exact promised_ok _ _ _ _ _ (AccIs.below HT9.out.acc hK)
          have lF : Hid (∀ Wx : World, (Wx.cell? ⟨br, 0, none⟩ = some (.int .i64 A.r) ∧ Wx.cell? ⟨br, 1, none⟩ = some (.int .i64 A.n) ∧ Wx.cell? ⟨br, 2, none⟩ = some (.int .i64 A.first) ∧ Wx.cell? ⟨br, 3, none⟩ = some (.slice ar qs.length cr) ∧ Below wr.heap.size wr Wx) → Calls Try.prog 18 #[.pointer (some ⟨b, 0, none⟩)] Wx fun e w' => e = .returned (.int .i64 A.first) ∧ Below Wx.heap.size Wx w') := by
            intro Wx hs
            obtain ⟨s0, s1, s2, s3, s4⟩ := hs
            have hK := s4
            exact first_b _ _ _ _ _ (AccIs.below HT9.out.acc hK)
          have lR : Hid (∀ Wx : World, (Wx.cell? ⟨br, 0, none⟩ = some (.int .i64 A.r) ∧ Wx.cell? ⟨br, 1, none⟩ = some (.int .i64 A.n) ∧ Wx.cell? ⟨br, 2, none⟩ = some (.int .i64 A.first) ∧ Wx.cell? ⟨br, 3, none⟩ = some (.slice ar qs.length cr) ∧ Below wr.heap.size wr Wx) → RowV Wx (.slice ar qs.length cr) qs) := by
            intro Wx hs
            obtain ⟨s0, s1, s2, s3, s4⟩ := hs
            have hK := s4
            exact HRQ.out.below hK
          go_region_held3 (fun w' => w'.cell? ⟨br, 0, none⟩ = some (.int .i64 A.r) ∧ w'.cell? ⟨br, 1, none⟩ = some (.int .i64 A.n) ∧ w'.cell? ⟨br, 2, none⟩ = some (.int .i64 A.first) ∧ w'.cell? ⟨br, 3, none⟩ = some (.slice ar qs.length cr) ∧ Below wr.heap.size wr w') (first | (exact ⟨x0, x1, x2, x3, below_drewN (Below.refl _ _) 1⟩) | (refine HhStab.out _ _ hbn ?_; assumption)) (first | (go_at_call 21; refine ((lP.out _ (by assumption))).mono ?_; rintro e wn ⟨rfl, hbn⟩) | (go_at_call 18; refine ((lF.out _ (by assumption))).mono ?_; rintro e wn ⟨rfl, hbn⟩) | (go_at_call 16; refine (lV.out _ (by assumption)).mono ?_; rintro e wn ⟨av9, cv9, vs9, rfl, hrv9, hvs9, hbn⟩; have HRV9 := Lib.hid hrv9; have HVS9 := Lib.hid hvs9; clear hrv9 hvs9) | (go_at_call 22; refine (votes_eq _ _ _ _ _ HRV9.out (lR.out _ (by assumption)) (HVS9.out.trans HQS.out.symm)).mono ?_; rintro e wn ⟨rfl, hbn⟩))
          have hS9 : wn.cell? ⟨br, 0, none⟩ = some (.int .i64 A.r) ∧ wn.cell? ⟨br, 1, none⟩ = some (.int .i64 A.n) ∧ wn.cell? ⟨br, 2, none⟩ = some (.int .i64 A.first) ∧ wn.cell? ⟨br, 3, none⟩ = some (.slice ar qs.length cr) ∧ Below wr.heap.size wr wn := by assumption
          obtain ⟨-, -, -, -, hb9⟩ := hS9
          have HBE := Lib.hid (below_step HT9.out.below hb9)
          clear hb9
          go_wp2_with fail
          go_ret
          exact ⟨by first | rfl | simp, HBE.out⟩

/-- What the datum of a vote says of its bytes' length. -/
def DataV {H : Type} (o : Vt) (d : DataW H) : Prop :=
  ∃ d0 d1 d2, d = .agg [d0, d1, d2] ∧ (o.l = [] ∨ ∃ es sp, d2 = .slice es sp ∧ es.length = o.l.length)
theorem list3 {α : Type} {l : List α} (h : l.length = 3) : ∃ a b c, l = [a, b, c] := by
  match l, h with | [a, b, c], _ => exact ⟨a, b, c, rfl⟩
theorem elem_vote {H : Type} {enc : TypeId × Value → H} {W : World} (n : Nat) (cs : List Value) (y : DataW H × List MemPlace) (h : DataW.trod enc Try.prog W 0 (fun _ => true) true n 38 cs = some y) :
    ∃ o : Vt, cs = o.cells ∧ ((Lie W o.a (bcells o.l) ∧ (o.a = none → o.l.length = 0 ∧ o.c = 0) ∧ (-9223372036854775808 ≤ o.s ∧ o.s ≤ 9223372036854775807)) ∧ DataV o y.1) := by
  obtain ⟨ys, n', hn', hy, hlen, hyl, hf⟩ := DataW.trod_struct Try.underlying38 h
  rw [show Try.prog.cellsOf 38 = 4 by kernel_rfl] at hlen
  obtain ⟨c0, c1, c2, c3, rfl⟩ := list4' hlen
  obtain ⟨y0, y1, y2, rfl⟩ := list3 (hyl.trans (by kernel_rfl))
  have t0 := hf 0 _ rfl
  have t1 := hf 1 _ rfl
  have t2 := hf 2 _ rfl
  have k1 : Try.prog.cellsOf 3 = 1 := by kernel_rfl
  have k2 : Try.prog.cellsOf 28 = 2 := by kernel_rfl
  have k3 : Try.prog.cellsOf 29 = 1 := by kernel_rfl
  change DataW.trod enc Try.prog W 0 (fun _ => true) true n' 3 (List.take (Try.prog.cellsOf 3) (List.drop 0 [c0, c1, c2, c3])) = some y0 at t0
  change DataW.trod enc Try.prog W 0 (fun _ => true) true n' 28 (List.take (Try.prog.cellsOf 28) (List.drop 1 [c0, c1, c2, c3])) = some y1 at t1
  change DataW.trod enc Try.prog W 0 (fun _ => true) true n' 29 (List.take (Try.prog.cellsOf 29) (List.drop 3 [c0, c1, c2, c3])) = some y2 at t2
  rw [k1] at t0
  rw [k2] at t1
  rw [k3] at t2
  change DataW.trod enc Try.prog W 0 (fun _ => true) true n' 3 [c0] = some y0 at t0
  change DataW.trod enc Try.prog W 0 (fun _ => true) true n' 28 [c1, c2] = some y1 at t1
  change DataW.trod enc Try.prog W 0 (fun _ => true) true n' 29 [c3] = some y2 at t2
  obtain ⟨a, ea, _, wa⟩ := DataW.trod_int Try.underlying3 t0
  obtain ⟨r, m, er, em⟩ := ballot_cells t1
  obtain ⟨ad, l, cap, ed, hlc, hcm, hnil, hlie, hwf⟩ := elem_ints Try.underlying29 Try.underlying5 (by kernel_rfl) t2
  have hD := elem_intsD Try.underlying29 Try.underlying5 (by kernel_rfl) t2 ed
  obtain ⟨q, rfl, hq⟩ := nat_list l (byte_wf hwf)
  rw [bcells_of] at hlie
  simp only [List.length_map] at *
  simp at ea
  subst ea er em ed
  refine ⟨⟨a, r, m, q, ad, cap⟩, rfl, ⟨hlie, hnil, int_wf wa⟩, ?_⟩
  refine ⟨_, _, _, by rw [hy]; rfl, ?_⟩
  rcases hD with h0 | ⟨es, sp, h1, h2⟩
  · exact .inl (List.length_eq_zero_iff.1 h0)
  · exact .inr ⟨es, sp, h1, h2⟩
theorem weights_all {H : Type} {P : Program} {t : TypeId} {n : Nat} : ∀ {ds : List (DataW H)} {d : DataW H}, d ∈ ds → n ∈ d.weights P t → n ∈ DataW.weightsAll P t ds
  | d0 :: ds, d, hd, hn => by
    simp only [DataW.weightsAll, List.mem_append]
    rcases List.mem_cons.1 hd with rfl | hd
    · exact .inl hn
    · exact .inr (weights_all hd hn)
theorem small_of {H : Type} {W : World} {o : OpV} {d1 : DataW H} {ds sp : List (DataW H)} {ts : List TypeId} {es : List (DataW H)} {j k : Nat} (hsz : (DataW.weightsEach Try.prog ts es).all (· ≤ reachBytes) = true) (ht : ts[j]? = some 22) (he : es[j]? = some (.slice ds sp)) (hk : ds[k]? = some d1) (ho : DataO o d1) : o.l.length ≤ 140737488351232 := by
  obtain ⟨e0, e1, e2, e3, rfl, h | ⟨es', sp', rfl, hl⟩⟩ := ho
  · rw [h]; simp
  · have e1' : Try.prog.bytesOf 5 = 1 := by kernel_rfl
    have hw : (es'.length + sp'.length) * Try.prog.bytesOf 5 ∈ (DataW.agg [e0, e1, e2, DataW.slice es' sp'] : DataW H).weights Try.prog 31 := by
      simp [DataW.weights, DataW.weightsEach, Try.underlying31, Try.underlying29]
    have hw2 := weights_all (List.mem_of_getElem? hk) hw
    have hw3 : (es'.length + sp'.length) * Try.prog.bytesOf 5 ∈ (DataW.slice ds sp : DataW H).weights Try.prog 22 := by
      simp only [DataW.weights, Try.underlying22, List.mem_cons, List.mem_append]
      exact .inr (.inl hw2)
    have h := List.all_eq_true.1 hsz _ (DataW.weights_mem_each ht he _ hw3)
    rw [e1', Nat.mul_one] at h
    have h2 : es'.length + sp'.length ≤ 140737488351232 := of_decide_eq_true h
    have h3 : es'.length = o.l.length := hl
    omega
theorem small_v {H : Type} {o : Vt} {d1 : DataW H} {ds sp : List (DataW H)} {ts : List TypeId} {es : List (DataW H)} {j k : Nat} (hsz : (DataW.weightsEach Try.prog ts es).all (· ≤ reachBytes) = true) (ht : ts[j]? = some 26) (he : es[j]? = some (.slice ds sp)) (hk : ds[k]? = some d1) (ho : DataV o d1) : o.l.length ≤ 140737488351232 := by
  obtain ⟨e0, e1, e2, rfl, h | ⟨es', sp', rfl, hl⟩⟩ := ho
  · rw [h]; simp
  · have e1' : Try.prog.bytesOf 5 = 1 := by kernel_rfl
    have hw : (es'.length + sp'.length) * Try.prog.bytesOf 5 ∈ (DataW.agg [e0, e1, DataW.slice es' sp'] : DataW H).weights Try.prog 38 := by
      simp [DataW.weights, DataW.weightsEach, Try.underlying38, Try.underlying29]
    have hw2 := weights_all (List.mem_of_getElem? hk) hw
    have hw3 : (es'.length + sp'.length) * Try.prog.bytesOf 5 ∈ (DataW.slice ds sp : DataW H).weights Try.prog 26 := by
      simp only [DataW.weights, Try.underlying26, List.mem_cons, List.mem_append]
      exact .inr (.inl hw2)
    have h := List.all_eq_true.1 hsz _ (DataW.weights_mem_each ht he _ hw3)
    rw [e1', Nat.mul_one] at h
    have h2 : es'.length + sp'.length ≤ 140737488351232 := of_decide_eq_true h
    have h3 : es'.length = o.l.length := hl
    omega
theorem many_v {H : Type} {ds sp : List (DataW H)} {ts : List TypeId} {es : List (DataW H)} {j : Nat} (hsz : (DataW.weightsEach Try.prog ts es).all (· ≤ reachBytes) = true) (ht : ts[j]? = some 26) (he : es[j]? = some (.slice ds sp)) : ds.length ≤ 2932031007402 := by
  have e1' : Try.prog.bytesOf 38 = 48 := by kernel_rfl
  have hw3 : (ds.length + sp.length) * Try.prog.bytesOf 38 ∈ (DataW.slice ds sp : DataW H).weights Try.prog 26 := by
    simp only [DataW.weights, Try.underlying26, List.mem_cons, List.mem_append]
    exact .inl trivial
  have h := List.all_eq_true.1 hsz _ (DataW.weights_mem_each ht he _ hw3)
  rw [e1'] at h
  have h2 : (ds.length + sp.length) * 48 ≤ 140737488351232 := of_decide_eq_true h
  omega

theorem lawWalk {H : Type} (enc : TypeId × Value → H) : LawWalk enc Try.prog 8 Try.f8 (fun _ => True) := by
  intro W base args ds p hval hA hsz _
  rw [Try.params8] at hA hval hsz
  obtain ⟨v0, vs0, d0, ds0, p0, q0, hargs, rfl, rfl, h0, r0⟩ := trodAll_cons hA
  obtain ⟨v1, vs1, d1, ds1, p1, q1, rfl, rfl, rfl, h1, r1⟩ := trodAll_cons r0
  obtain ⟨v2, vs2, d2, ds2, p2, q2, rfl, rfl, rfl, h2, r2⟩ := trodAll_cons r1
  obtain ⟨v3, vs3, d3, ds3, p3, q3, rfl, rfl, rfl, h3, r3⟩ := trodAll_cons r2
  obtain ⟨rfl, rfl, rfl⟩ := trodAll_nil r3
  obtain rfl : args = #[v0, v1, v2, v3] := Array.toList_inj.1 hargs
  obtain ⟨br0, bm0, rfl, wr0, wm0⟩ := open_pair Try.underlying28 (by kernel_rfl) (by kernel_rfl) Try.underlying3 Try.underlying3 (hval 0 28 v0 rfl rfl) h0
  obtain ⟨n1, rfl, rfl, rfl, w1⟩ := open_int Try.underlying3 (hval 1 3 v1 rfl rfl) h1
  obtain ⟨a2, l2, cap2, es2, sp2, rfl, hlc2, hcm2, hn2, hat2, hd2, hel2, hsp2, hgood2⟩ := open_slice_gen 4 Vt.cells (fun o d => (Lie W o.a (bcells o.l) ∧ (o.a = none → o.l.length = 0 ∧ o.c = 0) ∧ (-9223372036854775808 ≤ o.s ∧ o.s ≤ 9223372036854775807)) ∧ DataV o d) Try.underlying26 (by kernel_rfl) (by omega) (fun n cs y _ h => elem_vote n cs y h) (hval 2 26 v2 rfl rfl) h2
  obtain ⟨a3, l3, cap3, es3, sp3, rfl, hlc3, hcm3, hn3, hat3, hd3, hel3, hsp3, hgood3⟩ := open_slice_gen 5 ocells (fun o d => GoodO W o ∧ DataO o d) Try.underlying22 (by kernel_rfl) (by omega) (fun n cs y _ h => elem_op n cs y h) (hval 3 22 v3 rfl rfl) h3
  have hol : ∀ k (hk : k < l3.length), (l3[k]).l.length ≤ 140737488351232 := by
    intro k hk
    rcases hd3 with ⟨_, rfl, _, _⟩ | rfl
    · simp at hk
    · have hk2 : k < es3.length := by omega
      exact small_of (W := W) (j := 3) (k := k) hsz rfl rfl (List.getElem?_eq_getElem hk2) (hgood3 k hk hk2).2
  have hvl : ∀ k (hk : k < l2.length), (l2[k]).l.length ≤ 140737488351232 := by
    intro k hk
    rcases hd2 with ⟨_, rfl, _, _⟩ | rfl
    · simp at hk
    · have hk2 : k < es2.length := by omega
      exact small_v (j := 2) (k := k) hsz rfl rfl (List.getElem?_eq_getElem hk2) (hgood2 k hk hk2).2
  have hvn : l2.length ≤ 2932031007402 := by
    rcases hd2 with ⟨_, rfl, _, _⟩ | rfl
    · simp
    · have := many_v (j := 2) hsz rfl rfl
      omega
  have hrow : RowC W a2 l2 := by
    refine ⟨hat2, fun x hx => ?_, hvn⟩
    obtain ⟨k, hk, rfl⟩ := List.getElem_of_mem hx
    obtain ⟨⟨g1, g2, g3⟩, -⟩ := hgood2 k hk (by omega)
    have g4 := hvl k hk
    exact ⟨⟨g1, g2, by omega⟩, g4, g3⟩
  exact loads_ok W br0 bm0 n1 a2 l2 cap2 hrow (int_wf w1) a3 l3 cap3 (by unfold maxLen at hcm3; omega) hat3 (fun k hk => (hgood3 k hk (by omega)).1) hol

theorem own : ownKnob Try.prog.godebug = none := by kernel_rfl
theorem laidOut : laidOutB Try.prog = true := by kernel_rfl

set_option maxRecDepth 100000 in
theorem lifted (os : Os) (started : os.Started) (H : Type) (enc : TypeId × Value → H) :
    ReturnsInHanded {} Try.checked os 8 .any (Rows.acceptLoadsSpec.pre6 enc Try.prog Try.f8 Rows.acceptLoadsRow.domain false) (Rows.acceptLoadsSpec.post enc Try.prog Try.f8 false true false false) := by
  refine returnsInHanded_of_change_sized (C := Try.checked) own started (by kernel_rfl) Try.func8
    (ChangeSpec.witness6 (enc := enc) (C := Try.checked) false ⟨#[], #[.agg #[.int .i64 0, .int .i64 0], .int .i64 0, .slice none 0 0, .slice none 0 0], []⟩ 8 (by kernel_rfl) (by kernel_rfl) (by kernel_rfl) (by kernel_rfl)) ?_
  intro W base args ds gs before hval hW hcnd hsz _
  exact law_post (C := Try.checked) laidOut (fun ds h => by match ds, h with | [_, _, _, _], _ => rfl) 4 rfl Try.underlying4 rfl (by kernel_rfl) hval hW hsz trivial (lawWalk enc)

theorem proved : Rows.AcceptLoadsSaid :=
  OpenClaim.holds_of_wide 8 Try.f8 rfl rfl rfl rfl rfl rfl rfl ⟨rfl, rfl, rfl, rfl, rfl⟩ rfl rfl rfl rfl rfl (by kernel_rfl) Try.func8 (by kernel_rfl)
    (of_decide_eq_true (by kernel_rfl)) (by unfold Func.isWrapper; first | (rw [if_pos (by decide +kernel)]; kernel_rfl) | (rw [if_neg (by decide +kernel)]; exact ⟨rfl, rfl⟩))
    (fun os started H enc _ => lifted os started H enc)
#print axioms proved
end Go.Proofs.Ytafjmedjaepimaa.acceptLoads
