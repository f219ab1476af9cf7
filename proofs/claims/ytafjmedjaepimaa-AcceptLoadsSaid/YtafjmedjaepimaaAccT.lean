/-
  The document's acceptor (purseref10) in memory: New, turn, Less, From.
-/
import Derived.Test.YtafjmedjaepimaaAccL
import Derived.Test.YtafjmedjaepimaaKit4
namespace Go.Proofs.Ytafjmedjaepimaa.acct
open Go.ChangeShapes Go.WideShapes Go.ChangeAt Go.RowKit Go.Joins
open Go.Proofs.Ytafjmedjaepimaa.kit Go.Proofs.Ytafjmedjaepimaa.mapkit Go.Proofs.Ytafjmedjaepimaa.byt Go.Proofs.Ytafjmedjaepimaa.own Go.Proofs.Ytafjmedjaepimaa.accd Go.Proofs.Ytafjmedjaepimaa.acca Go.Proofs.Ytafjmedjaepimaa.accb Go.Proofs.Ytafjmedjaepimaa.acck Go.Proofs.Ytafjmedjaepimaa.acce Go.Proofs.Ytafjmedjaepimaa.accf Go.Proofs.Ytafjmedjaepimaa.accg Go.Proofs.Ytafjmedjaepimaa.acch Go.Proofs.Ytafjmedjaepimaa.acci Go.Proofs.Ytafjmedjaepimaa.accj Go.Proofs.Ytafjmedjaepimaa.accr Go.Proofs.Ytafjmedjaepimaa.accl
set_option linter.unusedVariables false
set_option linter.unusedSimpArgs false
set_option maxHeartbeats 1000000
set_option maxRecDepth 100000

/-- The document's acceptor: its block br, its row of votes; the values are readable since w0. -/
structure RefAt (w0 W : World) (lo br : Nat) (R : AS) : Prop where
  hlo : lo ≤ br
  ex : ∃ (a : Option Addr) (c : Nat) (xs : List Vt), W.heap[br]? = some (.cells #[.int .i64 R.r, .int .i64 R.n, .int .i64 R.first, .slice a xs.length c] 49 (0, 0)) ∧ W.ownsRow lo 38 4 (.slice a xs.length c) xs.length (vcells xs) ∧ xs.map lv = R.vs ∧ ∀ x ∈ xs, Rd w0 x
theorem RefAt.below {w0 W W' : World} {lo br : Nat} {R : AS} (h : RefAt w0 W lo br R) (hb : Below W.heap.size W W') : RefAt w0 W' lo br R := by
  obtain ⟨h0, a, c, xs, h1, h2, h3, h4⟩ := h
  exact ⟨h0, a, c, xs, hp_step h1 hb, own_below h2 hb, h3, h4⟩
theorem RefAt.lt {w0 W : World} {lo br : Nat} {R : AS} (h : RefAt w0 W lo br R) : br < W.heap.size := by
  obtain ⟨h0, a, c, xs, h1, -⟩ := h
  exact (kit.blk h1).2.2

theorem turn_any (r n : Int) (w : World) :
    Calls Try.prog 44 #[.agg #[.int .i64 r, .int .i64 n]] w fun e w' => e = .returned (.bool (realB r n)) ∧ Below w.heap.size w w' := by
  by_cases h : 1 ≤ r
  · have hL : Hid (realB r n = decide (1 ≤ n)) := by simp [Hid, realB, h]
    go_enter Try.func44, Try.ntmps44
    go_wp2
    go_ret
    exact ⟨by rw [hL.out]; rfl, below_new1 _ _⟩
  · have hL : Hid (realB r n = false) := by simp [Hid, realB, h]
    have h1 : decide (1 ≤ r) = false := by simp; omega
    go_enter Try.func44, Try.ntmps44
    go_wp2
    go_ret
    exact ⟨by rw [hL.out]; simp [h1], below_new1 _ _⟩
theorem rless_any (r1 n1 r2 n2 : Int) (w : World) :
    Calls Try.prog 45 #[.agg #[.int .i64 r1, .int .i64 n1], .agg #[.int .i64 r2, .int .i64 n2]] w fun e w' => e = .returned (.bool (lessB r1 n1 r2 n2)) ∧ Below w.heap.size w w' := by
  by_cases h : r1 = r2
  · subst h
    have hL : Hid (lessB r1 n1 r1 n2 = decide (n1 < n2)) := by simp [Hid, lessB]
    go_enter Try.func45, Try.ntmps45
    go_wp2
    go_ret
    exact ⟨by rw [hL.out]; rfl, below_new2 _ _ _⟩
  · have hL : Hid (lessB r1 n1 r2 n2 = decide (r1 < r2)) := by simp [Hid, lessB, h]
    have h2 : (r1 != r2) = true := by simpa using h
    go_enter Try.func45, Try.ntmps45
    go_wp2
    go_ret
    exact ⟨by rw [hL.out]; rfl, below_new2 _ _ _⟩
theorem rnew_ok (w0 w : World) : Calls Try.prog 19 #[] w fun e w' => e = .returned (.pointer (some ⟨w.heap.size, 0, none⟩)) ∧ RefAt w0 w' w.heap.size w.heap.size startS ∧ Below w.heap.size w w' := by
  have hn := Lib.hid (hp_alloc_new w (.cells #[.int .i64 0, .int .i64 0, .int .i64 1, .slice none 0 0] 49))
  go_enter Try.func19, Try.ntmps19
  go_wp2
  go_ret
  exact ⟨rfl, ⟨Nat.le_refl _, none, 0, [], hn.out, World.ownsRow_nil _ _ _ _, rfl, by simp⟩, below_new1 _ _⟩
/-- What From tells. -/
def FromT (w0 W : World) (L : List V4) (v : Value) (W' : World) : Prop :=
  ∃ (a : Option Addr) (c : Nat) (zs : List Vt), v = .slice a zs.length c ∧ W'.ownsRow W.heap.size 38 4 (.slice a zs.length c) zs.length (vcells zs) ∧ zs.map lv = L ∧ ∀ x ∈ zs, Rd w0 x
def fromV (xs : List Vt) (d : Int) : List Vt := xs.filter (fun v => decide (d ≤ v.s))
theorem fromV_snoc (xs : List Vt) (d : Int) (k : Nat) (hk : k < xs.length) : fromV (xs.take (k + 1)) d = if d ≤ xs[k].s then fromV (xs.take k) d ++ [xs[k]] else fromV (xs.take k) d := by
  rw [List.take_succ_eq_append_getElem hk, fromV, List.filter_append]
  by_cases h : d ≤ xs[k].s <;> simp [h, fromV]
theorem rowpush {lo : Nat} {W1 : World} {v' : Value} {zs : List Vt} {x : Vt} (ho : W1.ownsRow lo 38 4 v' (zs.length + 1) (vcells zs ++ x.cells)) : ∃ a c, v' = .slice a (zs ++ [x]).length c ∧ W1.ownsRow lo 38 4 (.slice a (zs ++ [x]).length c) (zs ++ [x]).length (vcells (zs ++ [x])) := by
  obtain ⟨a', c', rfl⟩ := own_shape ho
  refine ⟨a', c', by simp, ?_⟩
  rw [accc.vcells_append]
  have e : vcells [x] = x.cells := by simp [vcells]
  rw [e]
  simpa using ho

theorem from_ok (w0 W : World) (lo br : Nat) (R : AS) (d : Int) (h : RefAt w0 W lo br R) (hlen : R.vs.length ≤ 16) :
    Calls Try.prog 52 #[.pointer (some ⟨br, 0, none⟩), .int .i64 d] W fun e w' => ∃ v, e = .returned v ∧ FromT w0 W (from4 R.vs d) v w' ∧ Below W.heap.size W w' := by
  obtain ⟨j0, hj, hy0, hy1, hy2⟩ := info_parts accc.infoVote
  obtain ⟨-, a, c, xs, h1, h2, h3, h4⟩ := h
  have hxl : xs.length ≤ 16 := by have h := congrArg List.length h3; rw [List.length_map] at h; omega
  have H1 := Lib.hid h1
  have H2 := Lib.hid h2
  have H4 := Lib.hid h4
  have HFV := Lib.hid (fromV_snoc xs d)
  have HEND := Lib.hid (show (fromV xs d).map lv = from4 R.vs d by rw [← h3]; exact from_lv xs d)
  clear h1 h2 h3 h4
  go_enter Try.func52, Try.ntmps52
  go_wp2_with fail
  go_loopw [5, 6] (fun v i wr => ∃ k : Nat, k ≤ xs.length ∧ i = .int .i64 k ∧ (∃ al cl, v = .slice al (fromV (xs.take k) d).length cl ∧ Hid (wr.ownsRow W.heap.size 38 4 (.slice al (fromV (xs.take k) d).length cl) (fromV (xs.take k) d).length (vcells (fromV (xs.take k) d)))) ∧ Hid (Below W.heap.size W wr)) (fun _ i _ => xs.length - (intOf i).toNat)
  case atStart => exact ⟨0, Nat.zero_le _, rfl, ⟨none, 0, rfl, World.ownsRow_nil _ _ _ _⟩, (Below.refl _ _ : Below W.heap.size W W)⟩
  case round =>
    obtain ⟨k, hk, rfl, ⟨al, cl, rfl, HO⟩, HB⟩ := hrel
    have hbk := hp_step H1.out HB.out
    obtain ⟨c0, c1, c2, c3, cz⟩ := blk4 hbk
    have hzl : (fromV (xs.take k) d).length ≤ 16 := by
      have h : (fromV (xs.take k) d).length ≤ (xs.take k).length := List.length_filter_le _ _
      rw [List.length_take] at h
      omega
    by_cases hlt : k < xs.length
    · have hrow := own_below H2.out HB.out
      obtain ⟨g, rfl⟩ := own_ptr hrow (by omega)
      obtain ⟨x0, x1, x2, x3⟩ := vt_cells hrow hlt
      have hgz := (own_from hrow g rfl).2
      have hst := HFV.out k hlt
      obtain ⟨x, hx⟩ : ∃ x, x = xs[k] := ⟨_, rfl⟩
      rw [← hx] at x0 x1 x2 x3 hst
      obtain ⟨zs, hzs⟩ : ∃ zs, zs = fromV (xs.take k) d := ⟨_, rfl⟩
      rw [← hzs] at hst HO hzl ⊢
      obtain ⟨zs1, hzs1⟩ : ∃ zs, zs = fromV (xs.take (k + 1)) d := ⟨_, rfl⟩
      rw [← hzs1] at hst
      have HZ1 := Lib.hid hzs1
      have hsz := HB.out.size
      clear hbk hrow hx hzs hzs1
      by_cases hd : d ≤ x.s
      · rw [if_pos hd] at hst
        have HST := Lib.hid hst
        have d1 : decide (d ≤ x.s) = true := decide_eq_true hd
        clear hst hd
        go_wp2_with (at_builtin; refine wpl_append rfl (.tmp 26) (.tmp 34) 26 rfl W.heap.size 38 j0 _ 4 48 Try.underlying26 hj hy0 hy1 hy2 rfl (by decide) _ zs.length (vcells zs) rfl (HO.out.alloc _) (some ⟨wr.heap.size, 0, none⟩) 1 1 [.int .i64 x.s, .int .i64 x.r, .int .i64 x.n, .slice x.a x.l.length x.c] rfl (by simp) rfl (accc.lie_new4 _ _ _ _ _ _) (by simp [Value.oneCell']) (by unfold maxLen; omega) (by omega) (by rw [size_new]; omega) ?_; intro v5 w5 hown hgr; obtain ⟨a5, c5, hv5, hr5⟩ := rowpush (x := x) hown; have HO5 := Lib.hid hr5; have HV5 := Lib.hid hv5; have HB5 := Lib.hid ((HB.out.trans (Below.mono (below_new1 wr _) hsz)).grown hgr (by rw [size_new]; omega) (fun j hj => (own_from HO.out j (own_block HO.out j hj)).1)); clear hown hgr hv5 hr5)
        go_roundw
        case rel => exact ⟨k + 1, by omega, by go_num, by rw [← HZ1.out, HST.out]; exact ⟨a5, c5, HV5.out, HO5⟩, HB5⟩
        case measure => simp [intOf]; omega
      · rw [if_neg hd] at hst
        have HST := Lib.hid hst
        have d1 : decide (d ≤ x.s) = false := decide_eq_false hd
        clear hst hd
        go_wp2_with fail
        go_roundw
        case rel => exact ⟨k + 1, by omega, by go_num, by rw [← HZ1.out, HST.out]; exact ⟨al, cl, rfl, HO⟩, HB⟩
        case measure => simp [intOf]; omega
    · obtain rfl : k = xs.length := by omega
      rw [List.take_length] at HO ⊢
      have HR4 := Lib.hid (fun x (hx : x ∈ fromV xs d) => H4.out x (List.mem_filter.1 hx).1)
      go_wp2_with fail
      go_ret
      exact ⟨_, rfl, ⟨al, cl, fromV xs d, rfl, HO.out, HEND.out, HR4.out⟩, HB.out⟩
end Go.Proofs.Ytafjmedjaepimaa.acct
