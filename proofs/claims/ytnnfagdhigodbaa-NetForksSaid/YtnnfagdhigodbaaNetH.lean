/-
  Packets compared: same.Packet, same.Same at packets, count.
-/
import Derived.Test.YtnnfagdhigodbaaNetO
namespace Go.Proofs.Ytnnfagdhigodbaa.neth
open Go.ChangeShapes Go.WideShapes Go.ChangeAt Go.RowKit Go.Shelf
open Go.Proofs.Ytnnfagdhigodbaa.kit Go.Proofs.Ytnnfagdhigodbaa.byt Go.Proofs.Ytnnfagdhigodbaa.netc Go.Proofs.Ytnnfagdhigodbaa.netg Go.Proofs.Ytnnfagdhigodbaa.nets Go.Proofs.Ytnnfagdhigodbaa.nett Go.Proofs.Ytnnfagdhigodbaa.nete Go.Proofs.Ytnnfagdhigodbaa.netf Go.Proofs.Ytnnfagdhigodbaa.netq Go.Proofs.Ytnnfagdhigodbaa.netl Go.Proofs.Ytnnfagdhigodbaa.neti Go.Proofs.Ytnnfagdhigodbaa.neto
set_option linter.unusedVariables false
set_option linter.unusedSimpArgs false
set_option maxHeartbeats 1000000
set_option maxRecDepth 100000

/-- A packet's bytes can be read. -/
def Rd (w : World) (p : Pkt) : Prop := Lie w p.a (bcells p.l) ∧ p.l.length ≤ 9223372036854775807
theorem Rd.below {w w' : World} {p : Pkt} (h : Rd w p) (hb : Below w.heap.size w w') : Rd w' p := ⟨h.1.below hb, h.2⟩
theorem body_rd {w : World} {base : Nat} {p : Pkt} (h : Body w base p) : Rd w p := by
  refine ⟨(body_lie h).1, ?_⟩
  rcases h.2 with ⟨_, hz⟩ | ⟨g, cap, cur, e, hg, hh, hc, hm, _⟩
  · omega
  · unfold maxLen at hm; omega
def sameQ (x y : Q) : Bool := x.f == y.f && x.t == y.t && sameB x.l y.l
theorem sameQ_iff (x y : Q) : sameQ x y = true ↔ x = y := by
  obtain ⟨a, b, c⟩ := x
  obtain ⟨d, e, f⟩ := y
  simp [sameQ, sameB, and_assoc]

theorem samep_any (w : World) (p r : Pkt) (hp : Rd w p) (hr : Rd w r) : Calls Try.prog 22 #[p.val, r.val] w fun e w' => e = .returned (.bool (sameQ (q p) (q r))) ∧ Below w.heap.size w w' := by
  obtain ⟨f, t, l, a, c⟩ := p
  obtain ⟨f', t', l', a', c'⟩ := r
  obtain ⟨w2, hw2⟩ : ∃ w2 : World, w2 = (w.alloc (.cells #[.int .i64 f, .int .i64 t, .slice a l.length c] 48)).alloc (.cells #[.int .i64 f', .int .i64 t', .slice a' l'.length c'] 48) := ⟨_, rfl⟩
  have hB2 : Below w.heap.size w w2 := by rw [hw2]; exact below_new2 _ _ _
  have HC := Lib.hid (bytes_any l l' a a' c c' w2 hp.2 (hp.1.below hB2) (hr.1.below hB2))
  have HB2 := Lib.hid hB2
  have HW := Lib.hid hw2
  have hsq : sameQ (q ⟨f, t, l, a, c⟩) (q ⟨f', t', l', a', c'⟩) = (f == f' && t == t' && sameB l l') := rfl
  rw [hsq]
  simp only [Pkt.val]
  clear hp hr hB2 hw2 hsq
  by_cases h1 : f = f'
  · subst h1
    by_cases h2 : t = t'
    · subst h2
      go_enter Try.func22, Try.ntmps22
      go_wp2_with fail
      rw [← HW.out]
      refine HC.out.mono ?_; rintro e w3 ⟨rfl, hb3⟩
      go_wp2_with fail
      go_ret
      exact ⟨by simp, below_step HB2.out hb3⟩
    · have h2' : (t == t') = false := by simpa using h2
      go_enter Try.func22, Try.ntmps22
      go_wp2_with fail
      rw [← HW.out]
      go_ret
      exact ⟨by simp [h2'], HB2.out⟩
  · have h1' : (f == f') = false := by simpa using h1
    go_enter Try.func22, Try.ntmps22
    go_wp2_with fail
    rw [← HW.out]
    go_ret
    exact ⟨by simp [h1'], HB2.out⟩

/-- A row of packets that can be read. -/
structure RowP (w : World) (v : Value) (ps : List Pkt) : Prop where
  row : ∃ base a c, v = .slice a ps.length c ∧ w.ownsRow base 48 3 (.slice a ps.length c) ps.length (pkcells ps)
  rd : ∀ p ∈ ps, Rd w p
theorem RowP.below {w w' : World} {v : Value} {ps : List Pkt} (h : RowP w v ps) (hb : Below w.heap.size w w') : RowP w' v ps := by
  obtain ⟨⟨base, a, c, h1, h2⟩, h3⟩ := h
  exact ⟨⟨base, a, c, h1, own_below h2 hb⟩, fun p hp => (h3 p hp).below hb⟩
/-- The row's cells at a place. -/
theorem RowP.cells {w : World} {v : Value} {ps : List Pkt} (h : RowP w v ps) {i : Nat} (hi : i < ps.length) : ∃ g c, v = .slice (some ⟨g, 0, none⟩) ps.length c ∧ g < w.heap.size ∧ ps.length ≤ maxLen ∧
    w.cell? ⟨g, i * 3, none⟩ = some (.int .i64 ps[i].f) ∧ w.cell? ⟨g, i * 3 + 1, none⟩ = some (.int .i64 ps[i].t) ∧ w.cell? ⟨g, i * 3 + 2, none⟩ = some (.slice ps[i].a ps[i].l.length ps[i].c) := by
  obtain ⟨⟨base, a, c, h1, h2⟩, h3⟩ := h
  obtain ⟨g, rfl⟩ := own_ptr h2 (by omega)
  obtain ⟨q0, q1, q2⟩ := pk_cells h2 hi
  have hcap : ps.length ≤ maxLen := by
    rcases h2.2 with ⟨hz0, _⟩ | ⟨g', cap, cur, e', hgb, hh, hc', hm', _⟩
    · simp at hz0
    · omega
  exact ⟨g, c, h1, (own_from h2 g rfl).2, hcap, q0, q1, q2⟩
def cntQ (l : List Q) (x : Q) : Nat := l.countP fun y => sameQ y x
theorem cntQ_snoc (l : List Q) (x y : Q) : cntQ (l ++ [y]) x = cntQ l x + (if sameQ y x then 1 else 0) := by
  unfold cntQ
  rw [List.countP_append]
  simp [List.countP_cons]

theorem count_any (w : World) (v : Value) (ps : List Pkt) (p : Pkt) (h : RowP w v ps) (hp : Rd w p) (hlen : ps.length ≤ 9223372036854775807) : Calls Try.prog 24 #[v, p.val] w fun e w' => e = .returned (.int .i64 (cntQ (ps.map q) (q p))) ∧ Below w.heap.size w w' := by
  obtain ⟨a, c, hv⟩ : ∃ a c, v = .slice a ps.length c := by
    obtain ⟨⟨base, a, c, h1, _⟩, _⟩ := h
    exact ⟨a, c, h1⟩
  subst hv
  obtain ⟨w1, hw1⟩ : ∃ w1 : World, w1 = w.alloc (.cells #[.int .i64 p.f, .int .i64 p.t, .slice p.a p.l.length p.c] 48) := ⟨_, rfl⟩
  have hB1 : Below w.heap.size w w1 := by rw [hw1]; exact below_new1 _ _
  have hn1 : w1.heap[w.heap.size]? = some (.cells #[.int .i64 p.f, .int .i64 p.t, .slice p.a p.l.length p.c] 48 (0, 0)) := by rw [hw1]; exact hp_alloc_new _ _
  have HR := Lib.hid (fun (wr : World) (hb : Below w1.heap.size w1 wr) k hk => ((h.below hB1).below hb).cells (i := k) hk)
  have HS := Lib.hid (fun (wr : World) (hb : Below w1.heap.size w1 wr) k (hk : k < ps.length) => samep_any wr ps[k] p (((h.below hB1).below hb).rd _ (List.getElem_mem hk)) ((hp.below hB1).below hb))
  have HN1 := Lib.hid hn1
  have HB1 := Lib.hid hB1
  have HW := Lib.hid hw1
  clear h hp hB1 hn1 hw1
  go_enter Try.func24, Try.ntmps24
  simp only [Pkt.val]
  go_wp2_with fail
  rw [← HW.out]
  go_loopw [5, 6] (fun n i wr => ∃ k : Nat, k ≤ ps.length ∧ i = .int .i64 k ∧ n = .int .i64 (cntQ ((ps.take k).map q) (q p)) ∧ Hid (Below w1.heap.size w1 wr)) (fun _ i _ => ps.length - (intOf i).toNat)
  case atStart => exact ⟨0, Nat.zero_le _, rfl, rfl, Below.refl _ _⟩
  case round =>
    obtain ⟨k, hk, rfl, rfl, hB⟩ := hrel
    by_cases hlt : k < ps.length
    · obtain ⟨g, c', e, hgz, hcap, q0, q1, q2⟩ := HR.out wr hB.out k hlt
      simp only [Value.slice.injEq, true_and] at e
      obtain ⟨rfl, rfl⟩ := e
      obtain ⟨d0, d1, d2, _, _, _, dz⟩ := blk3 (hp_step HN1.out hB.out)
      have hBd := below_step hB.out (below_drewN (Below.refl _ wr) 1)
      have HC := Lib.hid (HS.out _ hBd k hlt)
      simp only [Pkt.val] at HC
      have HBd := Lib.hid hBd
      have hst : cntQ ((ps.take (k + 1)).map q) (q p) = cntQ ((ps.take k).map q) (q p) + (if sameQ (q ps[k]) (q p) then 1 else 0) := by
        rw [List.take_succ_eq_append_getElem hlt, List.map_append, List.map_singleton, cntQ_snoc]
      have HST := Lib.hid hst
      have hle : cntQ ((ps.take k).map q) (q p) ≤ k := by
        have h1 := List.countP_le_length (p := fun y => sameQ y (q p)) (l := (ps.take k).map q)
        rw [List.length_map, List.length_take] at h1
        unfold cntQ
        omega
      obtain ⟨n, hn⟩ : ∃ n, n = cntQ ((ps.take k).map q) (q p) := ⟨_, rfl⟩
      rw [← hn] at HST hle
      rw [← hn]
      have hw : wrap64 ((n : Int) + 1) = (n : Int) + 1 := by unfold wrap64; omega
      obtain ⟨bb, hbb⟩ : ∃ bb, bb = sameQ (q ps[k]) (q p) := ⟨_, rfl⟩
      rw [← hbb] at HC HST
      clear hst hn hbb hBd hle
      cases bb with
      | true =>
        go_wp2_with fail
        go_region_with (first | (go_at_call 22; refine HC.out.mono ?_; rintro e w4 ⟨rfl, hb4⟩; have HB4 := Lib.hid (below_step HBd.out hb4); clear hb4))
        all_goals
          go_wp2_with fail
          go_roundw
          case rel => exact ⟨k + 1, by omega, by go_num, by rw [HST.out]; simp [hw], HB4⟩
          case measure => simp [intOf]; omega
      | false =>
        go_wp2_with fail
        go_region_with (first | (go_at_call 22; refine HC.out.mono ?_; rintro e w4 ⟨rfl, hb4⟩; have HB4 := Lib.hid (below_step HBd.out hb4); clear hb4))
        all_goals
          go_wp2_with fail
          go_roundw
          case rel => exact ⟨k + 1, by omega, by go_num, by rw [HST.out]; simp, HB4⟩
          case measure => simp [intOf]; omega
    · obtain rfl : k = ps.length := by omega
      rw [List.take_length]
      go_wp2_with fail
      go_ret
      exact ⟨rfl, below_step HB1.out hB.out⟩

theorem same_any (w : World) (u v : Value) (ps rs : List Pkt) (hu : RowP w u ps) (hv : RowP w v rs) (he : ps.map q = rs.map q) :
    Calls Try.prog 21 #[u, v, .func (.func 22) #[] #[]] w fun e w' => e = .returned (.bool true) ∧ Below w.heap.size w w' := by
  obtain ⟨a, c, rfl⟩ : ∃ a c, u = .slice a ps.length c := by
    obtain ⟨⟨base, a, c, h1, _⟩, _⟩ := hu
    exact ⟨a, c, h1⟩
  obtain ⟨a', c', rfl⟩ : ∃ a c, v = .slice a rs.length c := by
    obtain ⟨⟨base, a, c, h1, _⟩, _⟩ := hv
    exact ⟨a, c, h1⟩
  have hlen : rs.length = ps.length := by have h := congrArg List.length he; rw [List.length_map, List.length_map] at h; exact h.symm
  have HU := Lib.hid (fun (wr : World) (hb : Below w.heap.size w wr) k hk => (hu.below hb).cells (i := k) hk)
  have HV := Lib.hid (fun (wr : World) (hb : Below w.heap.size w wr) k hk => (hv.below hb).cells (i := k) hk)
  have HS : Hid (∀ (wr : World), Below w.heap.size w wr → ∀ k (hk : k < ps.length) (hk' : k < rs.length), Calls Try.prog 22 #[ps[k].val, rs[k].val] wr fun e w' => e = .returned (.bool true) ∧ Below wr.heap.size wr w') := by
    intro wr hb k hk hk'
    have h := samep_any wr ps[k] rs[k] ((hu.below hb).rd _ (List.getElem_mem hk)) ((hv.below hb).rd _ (List.getElem_mem hk'))
    have e : q ps[k] = q rs[k] := by
      have e1 : (ps.map q)[k]? = (rs.map q)[k]? := by rw [he]
      simpa [hk, hk'] using e1
    rwa [(sameQ_iff _ _).2 e] at h
  clear hu hv he
  rw [hlen]
  have hlen' := Lib.hid hlen
  clear hlen
  go_enter Try.func21, Try.ntmps21
  go_wp2_with fail
  go_loopw [7] (fun i wr => ∃ k : Nat, k ≤ ps.length ∧ i = .int .i64 k ∧ Hid (Below w.heap.size w wr)) (fun i _ => ps.length - (intOf i).toNat)
  case atStart => exact ⟨0, Nat.zero_le _, rfl, Below.refl _ _⟩
  case round =>
    obtain ⟨k, hk, rfl, hB⟩ := hrel
    by_cases hlt : k < ps.length
    · have hlt' : k < rs.length := by rw [hlen'.out]; exact hlt
      obtain ⟨g, d, e, hgz, hcap, q0, q1, q2⟩ := HU.out wr hB.out k hlt
      obtain ⟨g', d', e', hgz', hcap', p0, p1, p2⟩ := HV.out wr hB.out k hlt'
      simp only [Value.slice.injEq, true_and] at e
      obtain ⟨rfl, rfl⟩ := e
      have hcap2 : ps.length ≤ 9223372036854775807 := by unfold maxLen at hcap; omega
      clear hcap hcap'
      rw [hlen'.out] at e'
      simp only [Value.slice.injEq, true_and] at e'
      obtain ⟨rfl, rfl⟩ := e'
      have hBd := below_step hB.out (below_drewN (Below.refl _ wr) 1)
      have HC := Lib.hid (HS.out _ hBd k hlt hlt')
      simp only [Pkt.val] at HC
      have HBd := Lib.hid hBd
      obtain ⟨r, hr⟩ : ∃ r, r = rs[k] := ⟨_, rfl⟩
      obtain ⟨p, hp⟩ : ∃ p, p = ps[k] := ⟨_, rfl⟩
      rw [← hr] at p0 p1 p2 HC
      rw [← hp] at q0 q1 q2 HC
      clear hBd hr hp hlt'
      go_wp2_with fail
      go_region_with (first | (go_at_call 22; refine HC.out.mono ?_; rintro e w4 ⟨rfl, hb4⟩; have HB4 := Lib.hid (below_step HBd.out hb4); clear hb4))
      all_goals
        go_wp2_with fail
        go_roundw
        case rel => exact ⟨k + 1, by omega, by go_num, HB4⟩
        case measure => simp [intOf]; omega
    · obtain rfl : k = ps.length := by omega
      go_wp2_with fail
      go_ret
      exact ⟨rfl, hB.out⟩
end Go.Proofs.Ytnnfagdhigodbaa.neth
