/-
  The helpers of the statements of layer 10: same.Vote, same.Votes, Op.vote, less, awake.
-/
import Derived.Test.YtafjmedjaepimaaAccH
namespace Go.Proofs.Ytafjmedjaepimaa.acci
open Go.ChangeShapes Go.WideShapes Go.ChangeAt Go.RowKit
open Go.Proofs.Ytafjmedjaepimaa.kit Go.Proofs.Ytafjmedjaepimaa.mapkit Go.Proofs.Ytafjmedjaepimaa.byt Go.Proofs.Ytafjmedjaepimaa.own Go.Proofs.Ytafjmedjaepimaa.accd Go.Proofs.Ytafjmedjaepimaa.acca Go.Proofs.Ytafjmedjaepimaa.accb Go.Proofs.Ytafjmedjaepimaa.acck Go.Proofs.Ytafjmedjaepimaa.acce Go.Proofs.Ytafjmedjaepimaa.accf Go.Proofs.Ytafjmedjaepimaa.accg Go.Proofs.Ytafjmedjaepimaa.acch
set_option linter.unusedVariables false
set_option linter.unusedSimpArgs false
set_option maxHeartbeats 1000000
set_option maxRecDepth 100000

theorem eqBallot (w : World) (a b c d : Int) : (binOp .eql 28 (.agg #[.int .i64 a, .int .i64 b]) (.agg #[.int .i64 c, .int .i64 d])).run Try.prog w = .ok (.bool (a == c && b == d)) w := by
  cases h : (a == c) <;> cases h2 : (b == d) <;> go_simp
def sameV (x y : V4) : Bool := x.s == y.s && (x.r == y.r && x.n == y.n) && sameB x.l y.l
theorem sameV_iff (x y : V4) : sameV x y = true ↔ x = y := by
  obtain ⟨s, r, n, l⟩ := x
  obtain ⟨s', r', n', l'⟩ := y
  simp [sameV, sameB, and_assoc]
theorem samev_any (w : World) (x y : Vt) (hx : Rd w x) (hy : Rd w y) :
    Calls Try.prog 17 #[.agg #[.int .i64 x.s, .int .i64 x.r, .int .i64 x.n, .slice x.a x.l.length x.c], .agg #[.int .i64 y.s, .int .i64 y.r, .int .i64 y.n, .slice y.a y.l.length y.c]] w fun e w' => e = .returned (.bool (sameV (lv x) (lv y))) ∧ Below w.heap.size w w' := by
  obtain ⟨s, r, n, l, a, c⟩ := x
  obtain ⟨s', r', n', l', a', c'⟩ := y
  obtain ⟨w2, hw2⟩ : ∃ w2 : World, w2 = (w.alloc (.cells #[.int .i64 s, .int .i64 r, .int .i64 n, .slice a l.length c] 38)).alloc (.cells #[.int .i64 s', .int .i64 r', .int .i64 n', .slice a' l'.length c'] 38) := ⟨_, rfl⟩
  have hB2 : Below w.heap.size w w2 := by rw [hw2]; exact below_new2 _ _ _
  have HC := Lib.hid (bytes_any l l' a a' c c' w2 (by have := hx.len; simp only at this; omega) (hx.lie.below hB2) (hy.lie.below hB2))
  have HB2 := Lib.hid hB2
  have HW := Lib.hid hw2
  have hq := eqBallot
  have hsv : sameV (lv ⟨s, r, n, l, a, c⟩) (lv ⟨s', r', n', l', a', c'⟩) = (s == s' && (r == r' && n == n') && sameB l l') := rfl
  rw [hsv]
  simp only
  clear hx hy hB2 hw2 hsv
  by_cases h1 : s = s'
  · subst h1
    cases e2 : (r == r' && n == n') with
    | true =>
      go_enter Try.func17, Try.ntmps17
      go_wp2_with fail
      rw [← HW.out]
      refine HC.out.mono ?_; rintro e w3 ⟨rfl, hb3⟩
      go_wp2_with fail
      go_ret
      exact ⟨by simp, below_step HB2.out hb3⟩
    | false =>
      go_enter Try.func17, Try.ntmps17
      go_wp2_with fail
      rw [← HW.out]
      go_ret
      exact ⟨by simp, HB2.out⟩
  · have e1 : (s == s') = false := by simpa using h1
    go_enter Try.func17, Try.ntmps17
    go_wp2_with fail
    rw [← HW.out]
    go_ret
    exact ⟨by simp [e1], HB2.out⟩
/-- A row of votes that can be read. -/
structure RowV (w : World) (v : Value) (xs : List Vt) : Prop where
  row : ∃ base a c, v = .slice a xs.length c ∧ w.ownsRow base 38 4 (.slice a xs.length c) xs.length (vcells xs)
  rd : ∀ x ∈ xs, Rd w x
theorem RowV.below {w w' : World} {v : Value} {xs : List Vt} (h : RowV w v xs) (hb : Below w.heap.size w w') : RowV w' v xs := by
  obtain ⟨⟨base, a, c, h1, h2⟩, h3⟩ := h
  exact ⟨⟨base, a, c, h1, own_below h2 hb⟩, fun x hx => (h3 x hx).below hb⟩
theorem RowV.cells {w : World} {v : Value} {xs : List Vt} (h : RowV w v xs) {i : Nat} (hi : i < xs.length) : ∃ g c, v = .slice (some ⟨g, 0, none⟩) xs.length c ∧ g < w.heap.size ∧ xs.length ≤ maxLen ∧
    w.cell? ⟨g, i * 4, none⟩ = some (.int .i64 xs[i].s) ∧ w.cell? ⟨g, i * 4 + 1, none⟩ = some (.int .i64 xs[i].r) ∧ w.cell? ⟨g, i * 4 + 2, none⟩ = some (.int .i64 xs[i].n) ∧ w.cell? ⟨g, i * 4 + 3, none⟩ = some (.slice xs[i].a xs[i].l.length xs[i].c) := by
  obtain ⟨⟨base, a, c, h1, h2⟩, h3⟩ := h
  obtain ⟨g, rfl⟩ := own_ptr h2 (by omega)
  have hcap : xs.length ≤ maxLen := by
    rcases h2.2 with ⟨hz0, _⟩ | ⟨g', cap, cur, e', hgb, hh, hc', hm', _⟩
    · simp at hz0
    · omega
  exact ⟨g, c, h1, (own_from h2 g rfl).2, hcap, vt_cells h2 hi⟩
theorem told_row {w w' : World} {v : Value} {ls : List V4} (h : accc.Told w w' v ls) (hl : ∀ x ∈ ls, x.l.length ≤ 2048) : ∃ xs, RowV w' v xs ∧ xs.map lv = ls ∧ ∀ x ∈ xs, accd.Body w' w.heap.size x := by
  obtain ⟨a, c, xs, rfl, h1, h2, h3⟩ := h
  refine ⟨xs, ⟨⟨_, a, c, rfl, h2⟩, fun x hx => body_rd (h3 x hx) ?_⟩, h1, h3⟩
  have := hl (lv x) (by rw [← h1]; exact List.mem_map_of_mem hx)
  have e : (lv x).l.length = x.l.length := rfl
  omega
theorem RowV.shape {w : World} {v : Value} {xs : List Vt} (h : RowV w v xs) : ∃ a c, v = .slice a xs.length c := by
  obtain ⟨⟨base, a, c, h1, _⟩, _⟩ := h
  exact ⟨a, c, h1⟩
theorem same_any (w : World) (u v : Value) (ps rs : List Vt) (hu : RowV w u ps) (hv : RowV w v rs) (he : ps.map lv = rs.map lv) :
    Calls Try.prog 43 #[u, v, .func (.func 17) #[] #[]] w fun e w' => e = .returned (.bool true) ∧ Below w.heap.size w w' := by
  obtain ⟨a, c, rfl⟩ := hu.shape
  obtain ⟨a', c', rfl⟩ := hv.shape
  have hlen : rs.length = ps.length := by have h := congrArg List.length he; rw [List.length_map, List.length_map] at h; exact h.symm
  have HU := Lib.hid (fun (wr : World) (hb : Below w.heap.size w wr) k hk => (hu.below hb).cells (i := k) hk)
  have HV := Lib.hid (fun (wr : World) (hb : Below w.heap.size w wr) k hk => (hv.below hb).cells (i := k) hk)
  have HS : Hid (∀ (wr : World), Below w.heap.size w wr → ∀ k (hk : k < ps.length) (hk' : k < rs.length), Calls Try.prog 17 #[.agg #[.int .i64 ps[k].s, .int .i64 ps[k].r, .int .i64 ps[k].n, .slice ps[k].a ps[k].l.length ps[k].c], .agg #[.int .i64 rs[k].s, .int .i64 rs[k].r, .int .i64 rs[k].n, .slice rs[k].a rs[k].l.length rs[k].c]] wr fun e w' => e = .returned (.bool true) ∧ Below wr.heap.size wr w') := by
    intro wr hb k hk hk'
    have h := samev_any wr ps[k] rs[k] ((hu.below hb).rd _ (List.getElem_mem hk)) ((hv.below hb).rd _ (List.getElem_mem hk'))
    have e : lv ps[k] = lv rs[k] := by
      have e1 : (ps.map lv)[k]? = (rs.map lv)[k]? := by rw [he]
      simpa [hk, hk'] using e1
    rwa [(sameV_iff _ _).2 e] at h
  clear hu hv he
  rw [hlen]
  have hlen' := Lib.hid hlen
  clear hlen
  go_enter Try.func43, Try.ntmps43
  go_wp2_with fail
  go_loopw [7] (fun i wr => ∃ k : Nat, k ≤ ps.length ∧ i = .int .i64 k ∧ Hid (Below w.heap.size w wr)) (fun i _ => ps.length - (RowKit.intOf i).toNat)
  case atStart => exact ⟨0, Nat.zero_le _, rfl, Below.refl _ _⟩
  case round =>
    obtain ⟨k, hk, rfl, hB⟩ := hrel
    by_cases hlt : k < ps.length
    · have hlt' : k < rs.length := by rw [hlen'.out]; exact hlt
      have hBd := below_step hB.out (below_drewN (Below.refl _ wr) 1)
      obtain ⟨g, d, e, hgz, hcap, q0, q1, q2, q3⟩ := HU.out wr hB.out k hlt
      obtain ⟨g', d', e', hgz', hcap', p0, p1, p2, p3⟩ := HV.out wr hB.out k hlt'
      simp only [Value.slice.injEq, true_and] at e
      obtain ⟨rfl, rfl⟩ := e
      have hcap2 : ps.length ≤ 9223372036854775807 := by unfold maxLen at hcap; omega
      clear hcap hcap'
      rw [hlen'.out] at e'
      simp only [Value.slice.injEq, true_and] at e'
      obtain ⟨rfl, rfl⟩ := e'
      have HC := Lib.hid (HS.out _ hBd k hlt hlt')
      have HBd := Lib.hid hBd
      obtain ⟨r, hr⟩ : ∃ r, r = rs[k] := ⟨_, rfl⟩
      obtain ⟨p, hp⟩ : ∃ p, p = ps[k] := ⟨_, rfl⟩
      rw [← hr] at p0 p1 p2 p3 HC
      rw [← hp] at q0 q1 q2 q3 HC
      clear hBd hr hp hlt'
      go_wp2_with fail
      go_still_tail 9, (by kernel_rfl)
      change wpList _ _ _ _ _ wr.drew
      go_wp2_with fail
      refine HC.out.mono ?_; rintro e w4 ⟨rfl, hb4⟩
      have HB4 := Lib.hid (below_step HBd.out hb4)
      clear hb4
      go_wp2_with fail
      go_roundw
      case rel => exact ⟨k + 1, by omega, by go_num, HB4⟩
      case measure => simp [RowKit.intOf]; omega
    · obtain rfl : k = ps.length := by omega
      go_wp2_with fail
      go_ret
      exact ⟨rfl, hB.out⟩
theorem votes_eq (w : World) (u v : Value) (ps rs : List Vt) (hu : RowV w u ps) (hv : RowV w v rs) (he : ps.map lv = rs.map lv) :
    Calls Try.prog 22 #[u, v] w fun e w' => e = .returned (.bool true) ∧ Below w.heap.size w w' := by
  have HS := Lib.hid (same_any w u v ps rs hu hv he)
  obtain ⟨a, c, rfl⟩ := hu.shape
  obtain ⟨a', c', rfl⟩ := hv.shape
  clear hu hv he
  go_enter Try.func22, Try.ntmps22
  go_wp2_with fail
  refine HS.out.mono ?_; rintro e w1 ⟨rfl, hb1⟩
  go_wp2_with fail
  go_ret
  exact ⟨rfl, hb1⟩
theorem vote_any (w : World) (k s r n : Int) (a : Option Addr) (l c : Nat) :
    Calls Try.prog 15 #[.agg #[.int .i64 k, .int .i64 s, .int .i64 r, .int .i64 n, .slice a l c]] w fun e w' => e = .returned (.agg #[.int .i64 s, .int .i64 r, .int .i64 n, .slice a l c]) ∧ Below w.heap.size w w' := by
  go_enter Try.func15, Try.ntmps15
  go_wp2_with fail
  exact bodyPost_ret (v := .agg #[.int .i64 s, .int .i64 r, .int .i64 n, .slice a l c]) (by simp [results, Try.results15, go_sem]) rfl ⟨rfl, below_new2 _ _ _⟩
end Go.Proofs.Ytafjmedjaepimaa.acci
