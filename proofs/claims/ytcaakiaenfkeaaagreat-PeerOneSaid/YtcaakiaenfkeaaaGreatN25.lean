/-
  The document's acceptor (purseref10) in memory: New, turn, Less, From.
-/
import Derived.Test.YtcaakiaenfkeaaaGreatN22
import Derived.Test.YtcaakiaenfkeaaaGreatN01
import Derived.Test.YtcaakiaenfkeaaaGreatN06
import Derived.StillTailTactics
import Derived.Test.YtcaakiaenfkeaaaGreatN08
import Derived.Test.YtcaakiaenfkeaaaGreatN24
import Derived.BigQuiet
namespace Go.Proofs.YtcaakiaenfkeaaaGreat.acct
open Go.ChangeShapes Go.WideShapes Go.ChangeAt Go.RowKit Go.Joins
open Go.Proofs.YtcaakiaenfkeaaaGreat.kit Go.Proofs.YtcaakiaenfkeaaaGreat.mapkit Go.Proofs.YtcaakiaenfkeaaaGreat.byt Go.Proofs.YtcaakiaenfkeaaaGreat.own Go.Proofs.YtcaakiaenfkeaaaGreat.accd Go.Proofs.YtcaakiaenfkeaaaGreat.acca Go.Proofs.YtcaakiaenfkeaaaGreat.accb Go.Proofs.YtcaakiaenfkeaaaGreat.acck Go.Proofs.YtcaakiaenfkeaaaGreat.acce Go.Proofs.YtcaakiaenfkeaaaGreat.accf Go.Proofs.YtcaakiaenfkeaaaGreat.accg Go.Proofs.YtcaakiaenfkeaaaGreat.acch Go.Proofs.YtcaakiaenfkeaaaGreat.acci Go.Proofs.YtcaakiaenfkeaaaGreat.accj Go.Proofs.YtcaakiaenfkeaaaGreat.accr Go.Proofs.YtcaakiaenfkeaaaGreat.accl
set_option linter.unusedVariables false
set_option linter.unusedSimpArgs false
set_option maxHeartbeats 1000000
set_option maxRecDepth 100000

/-- A vote whose value nobody writes. -/
def RoV (w : World) (x : Vt) : Prop := peb.RoB w ⟨x.a, x.c, x.l⟩
/-- The document's acceptor: its block br, its row of votes; the values are readable since w0. -/
structure RefAt (w0 W : World) (lo br : Nat) (R : AS) : Prop where
  hlo : True
  ex : ∃ (a : Option Addr) (c : Nat) (xs : List Vt), W.heap[br]? = some (.cells #[.int .i64 R.r, .int .i64 R.n, .int .i64 R.first, .slice a xs.length c] 87 (0, 0)) ∧ W.ownsRow lo 45 4 (.slice a xs.length c) xs.length (vcells xs) ∧ xs.map lv = R.vs ∧ ∀ x ∈ xs, RoV w0 x
theorem RefAt.below {w0 W W' : World} {lo br : Nat} {R : AS} (h : RefAt w0 W lo br R) (hb : Below W.heap.size W W') : RefAt w0 W' lo br R := by
  obtain ⟨h0, a, c, xs, h1, h2, h3, h4⟩ := h
  exact ⟨h0, a, c, xs, hp_step h1 hb, own_below h2 hb, h3, h4⟩
theorem RefAt.lt {w0 W : World} {lo br : Nat} {R : AS} (h : RefAt w0 W lo br R) : br < W.heap.size := by
  obtain ⟨h0, a, c, xs, h1, -⟩ := h
  exact (kit.blk h1).2.2

theorem turn_any (r n : Int) (w : World) :
    Calls Tryz.prog 51 #[.agg #[.int .i64 r, .int .i64 n]] w fun e w' => e = .returned (.bool (realB r n)) ∧ Below w.heap.size w w' := by
  by_cases h : 1 ≤ r
  · have hL : Hid (realB r n = decide (1 ≤ n)) := by simp [Hid, realB, h]
    go_enter Tryz.func51, Tryz.ntmps51
    go_wp2
    go_ret
    exact ⟨by rw [hL.out]; rfl, below_new1 _ _⟩
  · have hL : Hid (realB r n = false) := by simp [Hid, realB, h]
    have h1 : decide (1 ≤ r) = false := by simp; omega
    go_enter Tryz.func51, Tryz.ntmps51
    go_wp2
    go_ret
    exact ⟨by rw [hL.out]; simp [h1], below_new1 _ _⟩
theorem rless_any (r1 n1 r2 n2 : Int) (w : World) :
    Calls Tryz.prog 25 #[.agg #[.int .i64 r1, .int .i64 n1], .agg #[.int .i64 r2, .int .i64 n2]] w fun e w' => e = .returned (.bool (lessB r1 n1 r2 n2)) ∧ Below w.heap.size w w' := by
  by_cases h : r1 = r2
  · subst h
    have hL : Hid (lessB r1 n1 r1 n2 = decide (n1 < n2)) := by simp [Hid, lessB]
    go_enter Tryz.func25, Tryz.ntmps25
    go_wp2
    go_ret
    exact ⟨by rw [hL.out]; rfl, below_new2 _ _ _⟩
  · have hL : Hid (lessB r1 n1 r2 n2 = decide (r1 < r2)) := by simp [Hid, lessB, h]
    have h2 : (r1 != r2) = true := by simpa using h
    go_enter Tryz.func25, Tryz.ntmps25
    go_wp2
    go_ret
    exact ⟨by rw [hL.out]; rfl, below_new2 _ _ _⟩
/-- What From tells. -/
def FromT (w0 W : World) (L : List V4) (v : Value) (W' : World) : Prop :=
  ∃ (a : Option Addr) (c : Nat) (zs : List Vt), v = .slice a zs.length c ∧ W'.ownsRow W.heap.size 45 4 (.slice a zs.length c) zs.length (vcells zs) ∧ zs.map lv = L ∧ ∀ x ∈ zs, RoV w0 x
def fromV (xs : List Vt) (d : Int) : List Vt := xs.filter (fun v => decide (d ≤ v.s))
theorem fromV_snoc (xs : List Vt) (d : Int) (k : Nat) (hk : k < xs.length) : fromV (xs.take (k + 1)) d = if d ≤ xs[k].s then fromV (xs.take k) d ++ [xs[k]] else fromV (xs.take k) d := by
  rw [List.take_succ_eq_append_getElem hk, fromV, List.filter_append]
  by_cases h : d ≤ xs[k].s <;> simp [h, fromV]
theorem rowpush {lo : Nat} {W1 : World} {v' : Value} {zs : List Vt} {x : Vt} (ho : W1.ownsRow lo 45 4 v' (zs.length + 1) (vcells zs ++ x.cells)) : ∃ a c, v' = .slice a (zs ++ [x]).length c ∧ W1.ownsRow lo 45 4 (.slice a (zs ++ [x]).length c) (zs ++ [x]).length (vcells (zs ++ [x])) := by
  obtain ⟨a', c', rfl⟩ := own_shape ho
  refine ⟨a', c', by simp, ?_⟩
  rw [accc.vcells_append]
  have e : vcells [x] = x.cells := by simp [vcells]
  rw [e]
  simpa using ho

theorem from_ok (w0 W : World) (lo br : Nat) (R : AS) (d : Int) (h : RefAt w0 W lo br R) (hlen : R.vs.length ≤ 16) :
    Calls Tryz.prog 28 #[.pointer (some ⟨br, 0, none⟩), .int .i64 d] W fun e w' => ∃ v, e = .returned v ∧ FromT w0 W (from4 R.vs d) v w' ∧ Below W.heap.size W w' := by
  obtain ⟨j0, hj, hy0, hy1, hy2⟩ := info_parts accc.infoVote
  obtain ⟨-, a, c, xs, h1, h2, h3, h4⟩ := h
  have hxl : xs.length ≤ 16 := by have h := congrArg List.length h3; rw [List.length_map] at h; omega
  have H1 := Lib.hid h1
  have H2 := Lib.hid h2
  have H4 := Lib.hid h4
  have HFV := Lib.hid (fromV_snoc xs d)
  have HEND := Lib.hid (show (fromV xs d).map lv = from4 R.vs d by rw [← h3]; exact from_lv xs d)
  clear h1 h2 h3 h4
  go_enter Tryz.func28, Tryz.ntmps28
  go_wp2_with fail
  go_loopw [5, 6] (fun v i wr => ∃ k : Nat, k ≤ xs.length ∧ i = .int .i64 k ∧ (∃ al cl, v = .slice al (fromV (xs.take k) d).length cl ∧ Hid (wr.ownsRow W.heap.size 45 4 (.slice al (fromV (xs.take k) d).length cl) (fromV (xs.take k) d).length (vcells (fromV (xs.take k) d)))) ∧ Hid (Below W.heap.size W wr)) (fun _ i _ => xs.length - (intOf i).toNat)
  case atStart => exact ⟨0, Nat.zero_le _, rfl, ⟨none, 0, rfl, World.ownsRow_nil _ _ _ _⟩, (Below.refl _ _ : Below W.heap.size W W)⟩
  case round =>
    obtain ⟨k, hk, rfl, ⟨al, cl, rfl, HO⟩, HB⟩ := hrel
    have hbk := hp_step H1.out HB.out
    obtain ⟨c0, c1, c2, c3, cz⟩ := blk4 hbk
    have hzl : (fromV (xs.take k) d).length ≤ 16 := by
      have h : (fromV (xs.take k) d).length ≤ (xs.take k).length := List.length_filter_le _ _
      rw [List.length_take] at h
      omega
    by_cases hlt : k < xs.length
    · have hrow := own_below H2.out HB.out
      obtain ⟨g, rfl⟩ := own_ptr hrow (by omega)
      obtain ⟨x0, x1, x2, x3⟩ := vt_cells hrow hlt
      have hgz := (own_from hrow g rfl).2
      have hst := HFV.out k hlt
      obtain ⟨x, hx⟩ : ∃ x, x = xs[k] := ⟨_, rfl⟩
      rw [← hx] at x0 x1 x2 x3 hst
      obtain ⟨zs, hzs⟩ : ∃ zs, zs = fromV (xs.take k) d := ⟨_, rfl⟩
      rw [← hzs] at hst HO hzl ⊢
      obtain ⟨zs1, hzs1⟩ : ∃ zs, zs = fromV (xs.take (k + 1)) d := ⟨_, rfl⟩
      rw [← hzs1] at hst
      have HZ1 := Lib.hid hzs1
      have hsz := HB.out.size
      clear hbk hrow hx hzs hzs1
      by_cases hd : d ≤ x.s
      · rw [if_pos hd] at hst
        have HST := Lib.hid hst
        have d1 : decide (d ≤ x.s) = true := decide_eq_true hd
        clear hst hd
        go_wp2_with (at_builtin; refine wpl_append rfl (.tmp 26) (.tmp 34) 29 rfl W.heap.size 45 j0 _ 4 48 Tryz.underlying29 hj hy0 hy1 hy2 rfl (by decide) _ zs.length (vcells zs) rfl (HO.out.alloc _) (some ⟨wr.heap.size, 0, none⟩) 1 1 [.int .i64 x.s, .int .i64 x.r, .int .i64 x.n, .slice x.a x.l.length x.c] rfl (by simp) rfl (accc.lie_new4 _ _ _ _ _ _) (by simp [Value.oneCell']) (by unfold maxLen; omega) (by omega) (by rw [size_new]; omega) ?_; intro v5 w5 hown hgr; obtain ⟨a5, c5, hv5, hr5⟩ := rowpush (x := x) hown; have HO5 := Lib.hid hr5; have HV5 := Lib.hid hv5; have HB5 := Lib.hid ((HB.out.trans (Below.mono (below_new1 wr _) hsz)).grown hgr (by rw [size_new]; omega) (fun j hj => (own_from HO.out j (own_block HO.out j hj)).1)); clear hown hgr hv5 hr5)
        go_roundw
        case rel => exact ⟨k + 1, by omega, by go_num, by rw [← HZ1.out, HST.out]; exact ⟨a5, c5, HV5.out, HO5⟩, HB5⟩
        case measure => simp [intOf]; omega
      · rw [if_neg hd] at hst
        have HST := Lib.hid hst
        have d1 : decide (d ≤ x.s) = false := decide_eq_false hd
        clear hst hd
        go_wp2_with fail
        go_roundw
        case rel => exact ⟨k + 1, by omega, by go_num, by rw [← HZ1.out, HST.out]; exact ⟨al, cl, rfl, HO⟩, HB⟩
        case measure => simp [intOf]; omega
    · obtain rfl : k = xs.length := by omega
      rw [List.take_length] at HO ⊢
      have HR4 := Lib.hid (fun x (hx : x ∈ fromV xs d) => H4.out x (List.mem_filter.1 hx).1)
      go_wp2_with fail
      go_ret
      exact ⟨_, rfl, ⟨al, cl, fromV xs d, rfl, HO.out, HEND.out, HR4.out⟩, HB.out⟩
end Go.Proofs.YtcaakiaenfkeaaaGreat.acct
/-
  The document's acceptor: Prepare and Forget.
-/
namespace Go.Proofs.YtcaakiaenfkeaaaGreat.accu
open Go.ChangeShapes Go.WideShapes Go.ChangeAt Go.RowKit Go.Joins
open Go.Proofs.YtcaakiaenfkeaaaGreat.kit Go.Proofs.YtcaakiaenfkeaaaGreat.mapkit Go.Proofs.YtcaakiaenfkeaaaGreat.byt Go.Proofs.YtcaakiaenfkeaaaGreat.own Go.Proofs.YtcaakiaenfkeaaaGreat.accd Go.Proofs.YtcaakiaenfkeaaaGreat.acca Go.Proofs.YtcaakiaenfkeaaaGreat.accb Go.Proofs.YtcaakiaenfkeaaaGreat.acck Go.Proofs.YtcaakiaenfkeaaaGreat.acce Go.Proofs.YtcaakiaenfkeaaaGreat.accf Go.Proofs.YtcaakiaenfkeaaaGreat.accg Go.Proofs.YtcaakiaenfkeaaaGreat.acch Go.Proofs.YtcaakiaenfkeaaaGreat.acci Go.Proofs.YtcaakiaenfkeaaaGreat.accj Go.Proofs.YtcaakiaenfkeaaaGreat.accr Go.Proofs.YtcaakiaenfkeaaaGreat.accl Go.Proofs.YtcaakiaenfkeaaaGreat.acct
set_option linter.unusedVariables false
set_option linter.unusedSimpArgs false
set_option maxHeartbeats 1000000
set_option maxRecDepth 100000

/-- What a store into the block leaves. -/
theorem RefAt.ballot {w0 W : World} {lo br : Nat} {R : AS} (h : RefAt w0 W lo br R) (r n : Int) : RefAt w0 ((W.setCell ⟨br, 0, none⟩ (.int .i64 r)).setCell ⟨br, 1, none⟩ (.int .i64 n)) lo br ⟨r, n, R.first, R.vs⟩ := by
  obtain ⟨h0, a, c, xs, h1, h2, h3, h4⟩ := h
  refine ⟨h0, a, c, xs, hp_set (hp_set h1 0 _) 1 _, own_kept h2 (fun g hg => ?_), h3, h4⟩
  have hne := own_ne h2 h1 (by decide) g hg
  exact (hp_set_ne hne).trans (hp_set_ne hne)
theorem keep_br (W : World) (br : Nat) : Keep (fun k => k = br) W W := Keep.refl _ W

end Go.Proofs.YtcaakiaenfkeaaaGreat.accu
/-
  The document's acceptor: Accept.
-/
namespace Go.Proofs.YtcaakiaenfkeaaaGreat.accv
open Go.ChangeShapes Go.WideShapes Go.ChangeAt Go.RowKit Go.Joins
open Go.Proofs.YtcaakiaenfkeaaaGreat.kit Go.Proofs.YtcaakiaenfkeaaaGreat.mapkit Go.Proofs.YtcaakiaenfkeaaaGreat.byt Go.Proofs.YtcaakiaenfkeaaaGreat.own Go.Proofs.YtcaakiaenfkeaaaGreat.accd Go.Proofs.YtcaakiaenfkeaaaGreat.acca Go.Proofs.YtcaakiaenfkeaaaGreat.accb Go.Proofs.YtcaakiaenfkeaaaGreat.acck Go.Proofs.YtcaakiaenfkeaaaGreat.acce Go.Proofs.YtcaakiaenfkeaaaGreat.accf Go.Proofs.YtcaakiaenfkeaaaGreat.accg Go.Proofs.YtcaakiaenfkeaaaGreat.acch Go.Proofs.YtcaakiaenfkeaaaGreat.acci Go.Proofs.YtcaakiaenfkeaaaGreat.accj Go.Proofs.YtcaakiaenfkeaaaGreat.accr Go.Proofs.YtcaakiaenfkeaaaGreat.accl Go.Proofs.YtcaakiaenfkeaaaGreat.acct Go.Proofs.YtcaakiaenfkeaaaGreat.accu
set_option linter.unusedVariables false
set_option linter.unusedSimpArgs false
set_option maxHeartbeats 4000000
set_option maxRecDepth 100000

def lowV (xs : List Vt) (s : Int) : List Vt := xs.filter (fun v => decide (v.s < s))
def highV (xs : List Vt) (s : Int) : List Vt := xs.filter (fun v => decide (s < v.s))
theorem lowV_snoc (xs : List Vt) (d : Int) (k : Nat) (hk : k < xs.length) : lowV (xs.take (k + 1)) d = if xs[k].s < d then lowV (xs.take k) d ++ [xs[k]] else lowV (xs.take k) d := by
  rw [List.take_succ_eq_append_getElem hk, lowV, List.filter_append]
  by_cases h : xs[k].s < d <;> simp [h, lowV]
theorem highV_snoc (xs : List Vt) (d : Int) (k : Nat) (hk : k < xs.length) : highV (xs.take (k + 1)) d = if d < xs[k].s then highV (xs.take k) d ++ [xs[k]] else highV (xs.take k) d := by
  rw [List.take_succ_eq_append_getElem hk, highV, List.filter_append]
  by_cases h : d < xs[k].s <;> simp [h, highV]
theorem put_low (xs : List Vt) (v : Vt) : put xs v = lowV xs v.s ++ v :: highV xs v.s := rfl
/-- Two rows of votes that do not meet. -/
structure Two (N : Nat) (W : World) (al : Option Addr) (cl : Nat) (ls : List Vt) (ah : Option Addr) (ch : Nat) (hs : List Vt) : Prop where
  low : W.ownsRow N 45 4 (.slice al ls.length cl) ls.length (vcells ls)
  high : W.ownsRow N 45 4 (.slice ah hs.length ch) hs.length (vcells hs)
  dis : ∀ g, al = some ⟨g, 0, none⟩ → ah ≠ some ⟨g, 0, none⟩
theorem Two.below {N : Nat} {W W' : World} {al ah : Option Addr} {cl ch : Nat} {ls hs : List Vt} (h : Two N W al cl ls ah ch hs) (hb : Below W.heap.size W W') : Two N W' al cl ls ah ch hs := ⟨own_below h.low hb, own_below h.high hb, h.dis⟩
theorem Two.swap {N : Nat} {W : World} {al ah : Option Addr} {cl ch : Nat} {ls hs : List Vt} (h : Two N W al cl ls ah ch hs) : Two N W ah ch hs al cl ls := ⟨h.high, h.low, fun g hg e => h.dis g e hg⟩
theorem Two.push {N : Nat} {W W1 : World} {al ah : Option Addr} {cl ch : Nat} {ls hs : List Vt} {x : Vt} {v' : Value} (h : Two N W al cl ls ah ch hs)
    (ho : W1.ownsRow N 45 4 v' (ls.length + 1) (vcells ls ++ x.cells)) (hg : W.grownBy W1 (Value.slice al ls.length cl).ownBlock) (hat : ∀ k, v'.ownBlock = some k → (Value.slice al ls.length cl).ownBlock = some k ∨ W.heap.size ≤ k) :
    ∃ a c, v' = .slice a (ls ++ [x]).length c ∧ Two N W1 a c (ls ++ [x]) ah ch hs := by
  obtain ⟨a, c, rfl, hr⟩ := rowpush (x := x) ho
  refine ⟨a, c, rfl, hr, own_kept h.high (fun g hgh => ?_), fun g hga hgh => ?_⟩
  · refine hg.block g (own_from h.high g hgh).2 (fun e => ?_)
    exact h.dis g (own_block h.low g e.symm) hgh
  · have hob : (Value.slice a (ls ++ [x]).length c).ownBlock = some g := by rw [hga]; rfl
    rcases hat g hob with e | e
    · exact h.dis g (own_block h.low g e) hgh
    · have := (own_from h.high g hgh).2
      omega

theorem raccept_no (w0 W : World) (lo br : Nat) (R : AS) (v : Vt) (h : RefAt w0 W lo br R) (hE : accE R.r R.n R.first (lv v) ≠ 0) (hone : 1 ≤ R.first ∧ R.first ≤ 1099511627776) (hlen : v.l.length ≤ 9223372036854775807) (hs1 : -9223372036854775808 ≤ v.s) (hs2 : v.s ≤ 9223372036854775807) :
    Calls Tryz.prog 26 #[.pointer (some ⟨br, 0, none⟩), .agg #[.int .i64 v.s, .int .i64 v.r, .int .i64 v.n, .slice v.a v.l.length v.c]] W fun e w' => e = .returned (.int .i64 (accE R.r R.n R.first (lv v))) ∧ Below W.heap.size W w' := by
  obtain ⟨w1, hw1⟩ : ∃ w1, w1 = W.alloc (.cells #[.int .i64 v.s, .int .i64 v.r, .int .i64 v.n, .slice v.a v.l.length v.c] 45) := ⟨_, rfl⟩
  have hb1 : Below W.heap.size W w1 := by rw [hw1]; exact below_new1 _ _
  have hn1 : w1.heap[W.heap.size]? = some (.cells #[.int .i64 v.s, .int .i64 v.r, .int .i64 v.n, .slice v.a v.l.length v.c] 45 (0, 0)) := by rw [hw1]; exact hp_alloc_new _ _
  obtain ⟨q0, q1, q2, q3, qz⟩ := blk4 hn1
  have HW := Lib.hid hw1
  have HB1 := Lib.hid hb1
  have HN1 := Lib.hid hn1
  have HH := Lib.hid h
  have HT := Lib.hid (turn_any v.r v.n w1)
  have HEE := Lib.hid hE
  clear hw1 hb1 hn1 h
  by_cases hre : realB v.r v.n = false
  · have hE1 : accE R.r R.n R.first (lv v) = 1 := by rw [accE]; exact if_pos (.inl hre)
    rw [hre] at HT
    rw [hE1]
    clear hre hE1 hE
    go_enter Tryz.func26, Tryz.ntmps26
    go_wp2_with fail
    rw [← HW.out]
    refine HT.out.mono ?_; rintro e w2 ⟨rfl, hb2⟩
    have HB2 := Lib.hid (below_step HB1.out hb2)
    clear hb2 HT
    go_wp2_with fail
    go_ret
    exact ⟨rfl, HB2.out⟩
  · have hre' : realB v.r v.n = true := by simpa using hre
    rw [hre'] at HT
    by_cases hln : 2048 < v.l.length
    · have hE1 : accE R.r R.n R.first (lv v) = 1 := by rw [accE]; exact if_pos (.inr hln)
      have t1 : decide ((2048 : Int) < (v.l.length : Int)) = true := decide_eq_true (by omega)
      have t2 : (2048 : Int) < (v.l.length : Int) := by omega
      rw [hE1]
      clear hre hre' hE1 hE
      go_enter Tryz.func26, Tryz.ntmps26
      go_wp2_with fail
      rw [← HW.out]
      refine HT.out.mono ?_; rintro e w2 ⟨rfl, hb2⟩
      have HB2 := Lib.hid (below_step HB1.out hb2)
      obtain ⟨q0, q1, q2, q3, qz⟩ := blk4 (hp_step HN1.out hb2)
      clear hb2 HT
      go_wp2_with fail
      go_ret
      exact ⟨rfl, HB2.out⟩
    · have t1 : decide ((2048 : Int) < (v.l.length : Int)) = false := decide_eq_false (by omega)
      have t2 : ¬ (2048 : Int) < (v.l.length : Int) := by omega
      have hEq : accE R.r R.n R.first (lv v) = if lessB v.r v.n R.r R.n = true then 90 else if v.s < R.first then 80 else if R.first + 16 ≤ v.s then 81 else 0 := by
        rw [accE, if_neg (by simp only [lv, hre']; simp; omega)]
        rfl
      have HEQ := Lib.hid hEq
      clear hre hre' hEq hE hln
      go_enter Tryz.func26, Tryz.ntmps26
      go_wp2_with fail
      rw [← HW.out]
      refine HT.out.mono ?_; rintro e w2 ⟨rfl, hb2⟩
      have HB2 := Lib.hid (below_step HB1.out hb2)
      have HN2 := Lib.hid (hp_step HN1.out hb2)
      obtain ⟨-, a, c, xs, hblk, -⟩ := HH.out.below HB2.out
      obtain ⟨c0, c1, c2, c3, cz⟩ := blk4 hblk
      obtain ⟨q0, q1, q2, q3, qz⟩ := blk4 HN2.out
      have HLE := Lib.hid (rless_any v.r v.n R.r R.n w2.drew)
      clear hb2 hblk HT
      go_wp2_with fail
      go_still_tail 6, (by kernel_rfl)
      change wpList _ _ _ _ _ w2.drew
      go_wp2_with fail
      refine HLE.out.mono ?_; rintro e w3 ⟨rfl, hb3⟩
      have hb23 := below_step (below_drewN (Below.refl _ w2) 1) hb3
      have HB3 := Lib.hid (below_step HB2.out hb23)
      have HN3 := Lib.hid (hp_step HN2.out hb23)
      obtain ⟨-, a3, c3', xs3, hblk3, -⟩ := HH.out.below HB3.out
      clear c0 c1 c2 c3 cz q0 q1 q2 q3 qz
      obtain ⟨c0, c1, c2, c3, cz⟩ := blk4 hblk3
      obtain ⟨q0, q1, q2, q3, qz⟩ := blk4 HN3.out
      clear hb3 hb23 hblk3 HLE
      by_cases hL : lessB v.r v.n R.r R.n = true
      · have hE := HEQ.out
        rw [if_pos hL] at hE
        rw [hL]
        have HE := Lib.hid hE
        clear hE
        go_wp2_with fail
        go_ret
        exact ⟨by rw [HE.out]; rfl, HB3.out⟩
      have hL' : lessB v.r v.n R.r R.n = false := by simpa using hL
      rw [hL']
      by_cases h80 : v.s < R.first
      · have hE := HEQ.out
        rw [if_neg hL, if_pos h80] at hE
        have d80 : decide (v.s < R.first) = true := decide_eq_true h80
        have HE := Lib.hid hE
        clear hE
        go_wp2_with fail
        go_quiet (fail)
        go_wp2_with fail
        go_ret
        exact ⟨by rw [HE.out]; rfl, below_drewN HB3.out _⟩
      have d80 : decide (v.s < R.first) = false := decide_eq_false h80
      have h81 : R.first + 16 ≤ v.s := by
        by_cases h : R.first + 16 ≤ v.s
        · exact h
        · have hE := HEQ.out
          rw [if_neg hL, if_neg h80, if_neg h] at hE
          exact absurd hE HEE.out
      have hE := HEQ.out
      rw [if_neg hL, if_neg h80, if_pos h81] at hE
      have HE := Lib.hid hE
      have hsub : IntKind.i64.wrap (v.s - R.first) = v.s - R.first := IntWalk.i64_in _ (by omega)
      have d81 : decide ((16 : Int) ≤ v.s - R.first) = true := decide_eq_true (by omega)
      clear hE
      go_wp2_with fail
      go_quiet (fail)
      go_wp2_with fail
      go_quiet (fail)
      go_wp2_with fail
      go_ret
      exact ⟨by rw [HE.out]; rfl, by first | exact below_drewN (below_drewN HB3.out _) _ | exact below_drewN HB3.out _⟩

theorem keep_grown {S : Nat → Prop} {W w6 w7 : World} {ob : Option Nat} (h : Keep S W w6) (hg : w6.grownBy w7 ob) (hob : ∀ g, ob = some g → W.heap.size ≤ g) : Keep S W w7 :=
  ⟨hg.os.trans h.os, hg.tape.trans h.tape, hg.output.trans h.output, Nat.le_trans h.size hg.size, fun k hk hn => (hg.block k (Nat.lt_of_lt_of_le hk h.size) (fun e => by have := hob k e.symm; omega)).trans (h.block k hk hn)⟩
theorem row_lie {W : World} {N : Nat} {a : Option Addr} {c : Nat} {xs : List Vt} (h : W.ownsRow N 45 4 (.slice a xs.length c) xs.length (vcells xs)) : Lie W a (vcells xs) := by
  obtain ⟨ao, cap, e, h1, h2, h3⟩ := owned_lie h
  simp only [Value.slice.injEq, true_and] at e
  obtain ⟨rfl, rfl⟩ := e
  exact h2
theorem row_nil {W : World} {N : Nat} {a : Option Addr} {c : Nat} {xs : List Vt} (h : W.ownsRow N 45 4 (.slice a xs.length c) xs.length (vcells xs)) : a = none → xs.length = 0 ∧ c = 0 := by
  obtain ⟨ao, cap, e, h1, h2, h3⟩ := owned_lie h
  simp only [Value.slice.injEq, true_and] at e
  obtain ⟨rfl, rfl⟩ := e
  exact h1
theorem vcells_one (xs : List Vt) : ∀ u ∈ vcells xs, u.oneCell' = true := by
  intro u hu
  obtain ⟨x, -, hx⟩ := List.mem_flatMap.1 hu
  simp only [Vt.cells, List.mem_cons, List.not_mem_nil, or_false] at hx
  rcases hx with rfl | rfl | rfl | rfl <;> rfl
theorem raccept_yes (w0 W : World) (lo br : Nat) (R : AS) (v : Vt) (h : RefAt w0 W lo br R) (hE : accE R.r R.n R.first (lv v) = 0) (hone : 1 ≤ R.first ∧ R.first ≤ 1099511627776) (hlen : R.vs.length ≤ 16) (hrd : RoV w0 v) :
    Calls Tryz.prog 26 #[.pointer (some ⟨br, 0, none⟩), .agg #[.int .i64 v.s, .int .i64 v.r, .int .i64 v.n, .slice v.a v.l.length v.c]] W fun e w' => e = .returned (.int .i64 0) ∧ RefAt w0 w' W.heap.size br ⟨v.r, v.n, R.first, put4 R.vs (lv v)⟩ ∧ Keep (fun k => k = br) W w' := by
  obtain ⟨j0, hj, hy0, hy1, hy2⟩ := info_parts accc.infoVote
  obtain ⟨hre', hln, hL', hf1, hf2⟩ := acc0 hE
  have hre' : realB v.r v.n = true := hre'
  have hln : v.l.length ≤ 2048 := hln
  have hL' : lessB v.r v.n R.r R.n = false := hL'
  have hf1 : R.first ≤ v.s := hf1
  have hf2 : v.s < R.first + 16 := hf2
  obtain ⟨w1, hw1⟩ : ∃ w1, w1 = W.alloc (.cells #[.int .i64 v.s, .int .i64 v.r, .int .i64 v.n, .slice v.a v.l.length v.c] 45) := ⟨_, rfl⟩
  have hb1 : Below W.heap.size W w1 := by rw [hw1]; exact below_new1 _ _
  have hn1 : w1.heap[W.heap.size]? = some (.cells #[.int .i64 v.s, .int .i64 v.r, .int .i64 v.n, .slice v.a v.l.length v.c] 45 (0, 0)) := by rw [hw1]; exact hp_alloc_new _ _
  have hs1 : W.heap.size + 1 ≤ w1.heap.size := by rw [hw1, size_new]; exact Nat.le_refl _
  obtain ⟨q0, q1, q2, q3, qz⟩ := blk4 hn1
  have hR1 := h.below hb1
  obtain ⟨hlb, a, c, xs, hblk1, hrow1, hxs, hxr⟩ := hR1
  have hxl : xs.length ≤ 16 := by have h := congrArg List.length hxs; rw [List.length_map] at h; omega
  have hbrz := h.lt
  have HLB := Lib.hid hlb
  have HW := Lib.hid hw1
  have HB1 := Lib.hid hb1
  have HN1 := Lib.hid hn1
  have HBLK := Lib.hid hblk1
  have HROW := Lib.hid hrow1
  have HXS := Lib.hid hxs
  have HXR := Lib.hid hxr
  have HRD := Lib.hid hrd
  have HLS := Lib.hid (lowV_snoc xs v.s)
  have HHS := Lib.hid (highV_snoc xs v.s)
  have HT := Lib.hid (turn_any v.r v.n w1)
  rw [hre'] at HT
  have HLL := Lib.hid hL'
  have t1 : decide ((2048 : Int) < (v.l.length : Int)) = false := decide_eq_false (by omega)
  have t2 : ¬ (2048 : Int) < (v.l.length : Int) := by omega
  have d80 : decide (v.s < R.first) = false := decide_eq_false (by omega)
  have hsub : IntKind.i64.wrap (v.s - R.first) = v.s - R.first := IntWalk.i64_in _ (by omega)
  have d81 : decide ((16 : Int) ≤ v.s - R.first) = false := decide_eq_false (by omega)
  have hlt1 : br < W.heap.size := hbrz
  obtain ⟨nb, hnb⟩ : ∃ nb, nb = W.heap.size := ⟨_, rfl⟩
  have HNB := Lib.hid hnb
  rw [← hnb] at HN1
  clear hw1 hb1 hn1 h hre' hL' hE hblk1 hrow1 hxs hxr hrd hf1 hf2 hnb
  go_enter Tryz.func26, Tryz.ntmps26
  go_wp2_with fail
  rw [← HW.out, ← HNB.out]
  clear q0 q1 q2 q3 qz
  refine HT.out.mono ?_; rintro e w2 ⟨rfl, hb2⟩
  have HB2 := Lib.hid hb2
  obtain ⟨c0, c1, c2, c3, cz⟩ := blk4 (hp_step HBLK.out hb2)
  obtain ⟨q0, q1, q2, q3, qz⟩ := blk4 (hp_step HN1.out hb2)
  have HLE := Lib.hid (rless_any v.r v.n R.r R.n w2.drew)
  rw [HLL.out] at HLE
  clear hb2 HT
  go_wp2_with fail
  go_still_tail 6, (by kernel_rfl)
  change wpList _ _ _ _ _ w2.drew
  go_wp2_with fail
  refine HLE.out.mono ?_; rintro e w3 ⟨rfl, hb3⟩
  have HB3 := Lib.hid (below_step HB2.out (below_step (below_drewN (Below.refl _ w2) 1) hb3))
  clear c0 c1 c2 c3 cz q0 q1 q2 q3 qz hb3 HLE HB2
  obtain ⟨c0, c1, c2, c3, cz⟩ := blk4 (hp_step HBLK.out HB3.out)
  obtain ⟨q0, q1, q2, q3, qz⟩ := blk4 (hp_step HN1.out HB3.out)
  go_wp2_with fail
  go_quiet (fail)
  obtain ⟨w4, hw4⟩ : ∃ w4 : World, w4 = w3.drewN nq := ⟨_, rfl⟩
  rw [← hw4]
  have HB4 := Lib.hid (show Below w1.heap.size w1 w4 by rw [hw4]; exact below_drewN HB3.out nq)
  clear c0 c1 c2 c3 cz q0 q1 q2 q3 qz hw4 HB3
  obtain ⟨c0, c1, c2, c3, cz⟩ := blk4 (hp_step HBLK.out HB4.out)
  obtain ⟨q0, q1, q2, q3, qz⟩ := blk4 (hp_step HN1.out HB4.out)
  go_wp2_with fail
  go_quiet (fail)
  obtain ⟨w5, hw5⟩ : ∃ w5 : World, w5 = w4.drewN nq := ⟨_, rfl⟩
  rw [← hw5]
  have HB5 := Lib.hid (show Below w1.heap.size w1 w5 by rw [hw5]; exact below_drewN HB4.out nq)
  clear c0 c1 c2 c3 cz q0 q1 q2 q3 qz hw5 HB4
  go_wp2_with fail
  go_loopw [5, 6, 7] (fun vl vh i wr => ∃ (k : Nat) (al : Option Addr) (cl : Nat) (ah : Option Addr) (ch : Nat), k ≤ xs.length ∧ i = .int .i64 k ∧ vl = .slice al (lowV (xs.take k) v.s).length cl ∧ vh = .slice ah (highV (xs.take k) v.s).length ch ∧ Hid (Two w1.heap.size wr al cl (lowV (xs.take k) v.s) ah ch (highV (xs.take k) v.s)) ∧ Hid (Below w1.heap.size w1 wr)) (fun _ _ i _ => xs.length - (intOf i).toNat)
  case atStart => exact ⟨0, none, 0, none, 0, Nat.zero_le _, rfl, rfl, rfl, ⟨World.ownsRow_nil _ _ _ _, World.ownsRow_nil _ _ _ _, by simp⟩, HB5⟩
  case round =>
    obtain ⟨k, al, cl, ah, ch, hk, rfl, rfl, rfl, HTW, HB⟩ := hrel
    obtain ⟨c0, c1, c2, c3, cz⟩ := blk4 (hp_step HBLK.out HB.out)
    obtain ⟨f0, f1, f2, f3⟩ := blk4f (hp_step HBLK.out HB.out)
    obtain ⟨q0, q1, q2, q3, qz⟩ := blk4 (hp_step HN1.out HB.out)
    have hll : (lowV (xs.take k) v.s).length ≤ k := by
      have h : (lowV (xs.take k) v.s).length ≤ (xs.take k).length := List.length_filter_le _ _
      rw [List.length_take] at h
      omega
    have hhl : (highV (xs.take k) v.s).length ≤ k := by
      have h : (highV (xs.take k) v.s).length ≤ (xs.take k).length := List.length_filter_le _ _
      rw [List.length_take] at h
      omega
    have hszr := HB.out.size
    by_cases hlt : k < xs.length
    · have hrow := own_below HROW.out HB.out
      obtain ⟨g, rfl⟩ := own_ptr hrow (by omega)
      obtain ⟨x0, x1, x2, x3⟩ := vt_cells hrow hlt
      have hgz := (own_from hrow g rfl).2
      have hst1 := HLS.out k hlt
      have hst2 := HHS.out k hlt
      obtain ⟨x, hx⟩ : ∃ x, x = xs[k] := ⟨_, rfl⟩
      rw [← hx] at x0 x1 x2 x3 hst1 hst2
      obtain ⟨ls, hls⟩ : ∃ ls, ls = lowV (xs.take k) v.s := ⟨_, rfl⟩
      obtain ⟨hs, hhs⟩ : ∃ hs, hs = highV (xs.take k) v.s := ⟨_, rfl⟩
      rw [← hls] at hst1 HTW hll ⊢
      rw [← hhs] at hst2 HTW hhl ⊢
      obtain ⟨ls1, hls1⟩ : ∃ ls1, ls1 = lowV (xs.take (k + 1)) v.s := ⟨_, rfl⟩
      obtain ⟨hs1', hhs1⟩ : ∃ hs1, hs1 = highV (xs.take (k + 1)) v.s := ⟨_, rfl⟩
      rw [← hls1] at hst1
      rw [← hhs1] at hst2
      have HXC : Hid (∀ wx, Below w1.heap.size w1 wx → wx.cell? ⟨g, k * 4, none⟩ = some (.int .i64 x.s) ∧ wx.cell? ⟨g, k * 4 + 1, none⟩ = some (.int .i64 x.r) ∧ wx.cell? ⟨g, k * 4 + 2, none⟩ = some (.int .i64 x.n) ∧ wx.cell? ⟨g, k * 4 + 3, none⟩ = some (.slice x.a x.l.length x.c) ∧ g < wx.heap.size) := by
        intro wx hb
        have hr := own_below HROW.out hb
        obtain ⟨z0, z1, z2, z3⟩ := vt_cells hr hlt
        rw [← hx] at z0 z1 z2 z3
        exact ⟨z0, z1, z2, z3, (own_from hr g rfl).2⟩
      have HL1 := Lib.hid hls1
      have HH1 := Lib.hid hhs1
      clear hrow hx hls hhs hls1 hhs1
      by_cases hd : x.s < v.s
      · rw [if_pos hd] at hst1
        rw [if_neg (by omega)] at hst2
        have HS1 := Lib.hid hst1
        have HS2 := Lib.hid hst2
        have e1 : decide (x.s < v.s) = true := decide_eq_true hd
        have e2 : decide (v.s < x.s) = false := decide_eq_false (by omega)
        clear hst1 hst2 hd
        go_wp2_with fail
        go_quiet (fail)
        obtain ⟨w6, hw6⟩ : ∃ ww : World, ww = wr.drewN nq := ⟨_, rfl⟩
        rw [← hw6]
        have hb6 : Below wr.heap.size wr w6 := by rw [hw6]; exact below_drewN (Below.refl _ _) nq
        have HB6 := Lib.hid (below_step HB.out hb6)
        have HT6 := Lib.hid (HTW.out.below hb6)
        have y0 := cell_step x0 hb6
        have y1 := cell_step x1 hb6
        have y2 := cell_step x2 hb6
        have y3 := cell_step x3 hb6
        have p0 := cell_step c3 hb6
        have hgz6 : g < w6.heap.size := Nat.lt_of_lt_of_le hgz hb6.size
        have cz6 : br < w6.heap.size := Nat.lt_of_lt_of_le cz hb6.size
        have hsz6 := HB6.out.size
        clear hw6 hb6
        go_wp2_with (at_builtin; refine wpl_append_at rfl (.tmp 60) (.tmp 68) 29 rfl w1.heap.size 45 j0 _ 4 48 Tryz.underlying29 hj hy0 hy1 hy2 rfl (by decide) _ ls.length (vcells ls) rfl (HT6.out.low.alloc _) ⟨w6.heap.size, 0, none⟩ 1 1 [.int .i64 x.s, .int .i64 x.r, .int .i64 x.n, .slice x.a x.l.length x.c] rfl (by simp) (accc.lie_new4 _ _ _ _ _ _) (by simp [Value.oneCell']) (by unfold maxLen; omega) (by omega) (by rw [size_new]; omega) ?_; intro v5 w5x hown hgr hat5; obtain ⟨a5, c5, hv5, ht5⟩ := Two.push (x := x) (HT6.out.below (below_new1 w6 (.cells #[.int .i64 x.s, .int .i64 x.r, .int .i64 x.n, .slice x.a x.l.length x.c] 45))) hown hgr hat5; have HT7 := Lib.hid ht5; have HV7 := Lib.hid hv5; have HB7 := Lib.hid ((HB6.out.trans (Below.mono (below_new1 w6 _) hsz6)).grown hgr (by rw [size_new]; omega) (fun j hj => (own_from HT6.out.low j (own_block HT6.out.low j hj)).1)); clear hown hgr hat5 hv5 ht5)
        obtain ⟨r0, r1, r2, r3, rz⟩ := blk4 (hp_step HBLK.out HB7.out)
        obtain ⟨u0, u1, u2, u3, uz⟩ := blk4 (hp_step HN1.out HB7.out)
        obtain ⟨z0, z1, z2, z3, hgz7⟩ := HXC.out _ HB7.out
        go_quiet (fail)
        obtain ⟨w8, hw6⟩ : ∃ ww : World, ww = w5x.drewN nq := ⟨_, rfl⟩
        rw [← hw6]
        have hb6 : Below w5x.heap.size w5x w8 := by rw [hw6]; exact below_drewN (Below.refl _ _) nq
        have HB8 := Lib.hid (below_step HB7.out hb6)
        have HT8 := Lib.hid (HT7.out.below hb6)
        clear hw6 hb6
        go_wp2_with fail
        go_roundw
        case rel => exact ⟨k + 1, a5, c5, ah, ch, by omega, by go_num, by rw [← HL1.out, HS1.out]; exact HV7.out, by rw [← HH1.out, HS2.out], by rw [← HL1.out, ← HH1.out, HS1.out, HS2.out]; exact HT8, HB8⟩
        case measure => simp [intOf]; omega
      · by_cases hd2 : v.s < x.s
        · rw [if_neg hd] at hst1
          rw [if_pos hd2] at hst2
          have HS1 := Lib.hid hst1
          have HS2 := Lib.hid hst2
          have e1 : decide (x.s < v.s) = false := decide_eq_false hd
          have e2 : decide (v.s < x.s) = true := decide_eq_true hd2
          clear hst1 hst2 hd hd2
          go_wp2_with fail
          go_quiet (fail)
          obtain ⟨w6, hw6⟩ : ∃ ww : World, ww = wr.drewN nq := ⟨_, rfl⟩
          rw [← hw6]
          have hb6 : Below wr.heap.size wr w6 := by rw [hw6]; exact below_drewN (Below.refl _ _) nq
          have HB6 := Lib.hid (below_step HB.out hb6)
          have HT6 := Lib.hid (HTW.out.below hb6)
          obtain ⟨y0, y1, y2, y3, hgz6⟩ := HXC.out _ HB6.out
          obtain ⟨c0, c1, c2, c3, cz⟩ := blk4 (hp_step HBLK.out HB6.out)
          obtain ⟨q0, q1, q2, q3, qz⟩ := blk4 (hp_step HN1.out HB6.out)
          clear hw6 hb6
          go_wp2_with fail
          go_quiet (fail)
          obtain ⟨w7, hw6⟩ : ∃ ww : World, ww = w6.drewN nq := ⟨_, rfl⟩
          rw [← hw6]
          have hb6 : Below w6.heap.size w6 w7 := by rw [hw6]; exact below_drewN (Below.refl _ _) nq
          have HB7 := Lib.hid (below_step HB6.out hb6)
          have HT7 := Lib.hid (HT6.out.below hb6)
          obtain ⟨z0, z1, z2, z3, hgz7⟩ := HXC.out _ HB7.out
          obtain ⟨p0, p1, p2, p3, pz⟩ := blk4 (hp_step HBLK.out HB7.out)
          have hsz7 := HB7.out.size
          clear hw6 hb6
          go_wp2_with (at_builtin; refine wpl_append_at rfl (.tmp 81) (.tmp 89) 29 rfl w1.heap.size 45 j0 _ 4 48 Tryz.underlying29 hj hy0 hy1 hy2 rfl (by decide) _ hs.length (vcells hs) rfl (HT7.out.high.alloc _) ⟨w7.heap.size, 0, none⟩ 1 1 [.int .i64 x.s, .int .i64 x.r, .int .i64 x.n, .slice x.a x.l.length x.c] rfl (by simp) (accc.lie_new4 _ _ _ _ _ _) (by simp [Value.oneCell']) (by unfold maxLen; omega) (by omega) (by rw [size_new]; omega) ?_; intro v5 w5x hown hgr hat5; obtain ⟨a5, c5, hv5, ht5⟩ := Two.push (x := x) (HT7.out.below (below_new1 w7 (.cells #[.int .i64 x.s, .int .i64 x.r, .int .i64 x.n, .slice x.a x.l.length x.c] 45))).swap hown hgr hat5; have HT8 := Lib.hid ht5.swap; have HV8 := Lib.hid hv5; have HB8 := Lib.hid ((HB7.out.trans (Below.mono (below_new1 w7 _) hsz7)).grown hgr (by rw [size_new]; omega) (fun j hj => (own_from HT7.out.high j (own_block HT7.out.high j hj)).1)); clear hown hgr hat5 hv5 ht5)
          go_roundw
          case rel => exact ⟨k + 1, al, cl, a5, c5, by omega, by go_num, by rw [← HL1.out, HS1.out], by rw [← HH1.out, HS2.out]; exact HV8.out, by rw [← HL1.out, ← HH1.out, HS1.out, HS2.out]; exact HT8, HB8⟩
          case measure => simp [intOf]; omega
        · rw [if_neg hd] at hst1
          rw [if_neg hd2] at hst2
          have HS1 := Lib.hid hst1
          have HS2 := Lib.hid hst2
          have e1 : decide (x.s < v.s) = false := decide_eq_false hd
          have e2 : decide (v.s < x.s) = false := decide_eq_false hd2
          clear hst1 hst2 hd hd2
          go_wp2_with fail
          go_quiet (fail)
          obtain ⟨w6, hw6⟩ : ∃ ww : World, ww = wr.drewN nq := ⟨_, rfl⟩
          rw [← hw6]
          have hb6 : Below wr.heap.size wr w6 := by rw [hw6]; exact below_drewN (Below.refl _ _) nq
          have HB6 := Lib.hid (below_step HB.out hb6)
          have HT6 := Lib.hid (HTW.out.below hb6)
          obtain ⟨y0, y1, y2, y3, hgz6⟩ := HXC.out _ HB6.out
          obtain ⟨c0, c1, c2, c3, cz⟩ := blk4 (hp_step HBLK.out HB6.out)
          obtain ⟨q0, q1, q2, q3, qz⟩ := blk4 (hp_step HN1.out HB6.out)
          clear hw6 hb6
          go_wp2_with fail
          go_quiet (fail)
          obtain ⟨w7, hw6⟩ : ∃ ww : World, ww = w6.drewN nq := ⟨_, rfl⟩
          rw [← hw6]
          have hb6 : Below w6.heap.size w6 w7 := by rw [hw6]; exact below_drewN (Below.refl _ _) nq
          have HB7 := Lib.hid (below_step HB6.out hb6)
          have HT7 := Lib.hid (HT6.out.below hb6)
          clear hw6 hb6
          go_wp2_with fail
          go_roundw
          case rel => exact ⟨k + 1, al, cl, ah, ch, by omega, by go_num, by rw [← HL1.out, HS1.out], by rw [← HH1.out, HS2.out], by rw [← HL1.out, ← HH1.out, HS1.out, HS2.out]; exact HT7, HB7⟩
          case measure => simp [intOf]; omega
    · obtain rfl : k = xs.length := by omega
      rw [List.take_length] at HTW hll hhl ⊢
      obtain ⟨ls, hls⟩ : ∃ ls, ls = lowV xs v.s := ⟨_, rfl⟩
      obtain ⟨hs, hhs⟩ : ∃ hs, hs = highV xs v.s := ⟨_, rfl⟩
      rw [← hls] at HTW hll ⊢
      rw [← hhs] at HTW hhl ⊢
      have hput : put xs v = ls ++ [v] ++ hs := by rw [put_low, hls, hhs]; simp
      have HPUT := Lib.hid hput
      have hb6 := hp_set (hp_set (hp_step HBLK.out HB.out) 0 (.int .i64 v.r)) 1 (.int .i64 v.n)
      have hk6 : Keep (fun k => k = br) wr ((wr.setCell ⟨br, 0, none⟩ (.int .i64 v.r)).setCell ⟨br, 1, none⟩ (.int .i64 v.n)) := ((Keep.refl (fun k => k = br) wr).setCell (p := ⟨br, 0, none⟩) (.inr (show (fun k => k = br) br from rfl)) _).setCell (p := ⟨br, 1, none⟩) (.inr (show (fun k => k = br) br from rfl)) _
      have hrb := hp_step HBLK.out HB.out
      have hT6 : Two w1.heap.size ((wr.setCell ⟨br, 0, none⟩ (.int .i64 v.r)).setCell ⟨br, 1, none⟩ (.int .i64 v.n)) al cl ls ah ch hs := by
        refine ⟨own_kept HTW.out.low (fun g hg => ?_), own_kept HTW.out.high (fun g hg => ?_), HTW.out.dis⟩
        · have hne := own_ne HTW.out.low hrb (by decide) g hg
          exact (hp_set_ne hne).trans (hp_set_ne hne)
        · have hne := own_ne HTW.out.high hrb (by decide) g hg
          exact (hp_set_ne hne).trans (hp_set_ne hne)
      have hnbr : nb ≠ br := by
        intro e
        have h1 := hp_step HN1.out HB.out
        rw [e, hrb] at h1
        simp at h1
      have hn6 : ((wr.setCell ⟨br, 0, none⟩ (.int .i64 v.r)).setCell ⟨br, 1, none⟩ (.int .i64 v.n)).heap[nb]? = some (.cells #[.int .i64 v.s, .int .i64 v.r, .int .i64 v.n, .slice v.a v.l.length v.c] 45 (0, 0)) := (hp_set_ne hnbr).trans ((hp_set_ne hnbr).trans (hp_step HN1.out HB.out))
      obtain ⟨w6, hw6⟩ : ∃ w6 : World, w6 = (wr.setCell ⟨br, 0, none⟩ (.int .i64 v.r)).setCell ⟨br, 1, none⟩ (.int .i64 v.n) := ⟨_, rfl⟩
      rw [← hw6] at hb6 hk6 hT6 hn6
      have HB6 := Lib.hid (show w6.heap[br]? = some (.cells #[.int .i64 v.r, .int .i64 v.n, .int .i64 R.first, .slice a xs.length c] 87 (0, 0)) from hb6)
      have HK6 := Lib.hid ((Keep.of_below (HB1.out.trans (Below.mono HB.out HB1.out.size))).trans hk6)
      have HT6 := Lib.hid hT6
      have HW6 := Lib.hid hw6
      obtain ⟨u0, u1, u2, u3, uz⟩ := blk4 hn6
      have hsz6 : w1.heap.size ≤ w6.heap.size := Nat.le_trans hszr hk6.size
      clear hput hls hhs hb6 hk6 hrb hT6 hn6 hw6
      have HPU : Hid (∀ v5 w5, w5.ownsRow w1.heap.size 45 4 v5 (ls.length + 1) (vcells ls ++ [.int .i64 v.s, .int .i64 v.r, .int .i64 v.n, .slice v.a v.l.length v.c]) → (w6.alloc (.cells #[.int .i64 v.s, .int .i64 v.r, .int .i64 v.n, .slice v.a v.l.length v.c] 45)).grownBy w5 (Value.slice al ls.length cl).ownBlock → (∀ k, v5.ownBlock = some k → (Value.slice al ls.length cl).ownBlock = some k ∨ w6.heap.size + 1 ≤ k) →
          (∃ a5 c5, v5 = .slice a5 (ls.length + 1) c5 ∧ Two w1.heap.size w5 a5 c5 (ls ++ [v]) ah ch hs) ∧ Keep (fun k => k = br) W w5 ∧ w5.heap[br]? = some (.cells #[.int .i64 v.r, .int .i64 v.n, .int .i64 R.first, .slice a xs.length c] 87 (0, 0)) ∧ w1.heap.size ≤ w5.heap.size) := by
        intro v5 w5 ho hg hat
        have hbn := below_new1 w6 (.cells #[.int .i64 v.s, .int .i64 v.r, .int .i64 v.n, .slice v.a v.l.length v.c] 45)
        have hfr : ∀ g, (Value.slice al ls.length cl).ownBlock = some g → w1.heap.size ≤ g := fun g e => (own_from HT6.out.low g (own_block HT6.out.low g e)).1
        refine ⟨(by obtain ⟨a5, c5, e5, t5⟩ := Two.push (x := v) (HT6.out.below hbn) ho hg (fun k e => (hat k e).imp id (fun h => by rw [size_new]; exact h)); exact ⟨a5, c5, by rw [e5, List.length_append, List.length_singleton], t5⟩), keep_grown (HK6.out.trans (Keep.of_below hbn)) hg (fun g e => by have := hfr g e; omega), ?_, Nat.le_trans hsz6 (Nat.le_trans hbn.size hg.size)⟩
        have hbr6 := hp_step HB6.out hbn
        exact (hg.block br (kit.blk hbr6).2.2 (fun e => by have := hfr br e.symm; omega)).trans hbr6
      go_upto_region 18 with fail
      rw [← HW6.out]
      go_wp2_with (at_builtin; refine wpl_append_at rfl (.tmp 97) (.tmp 99) 29 rfl w1.heap.size 45 j0 _ 4 48 Tryz.underlying29 hj hy0 hy1 hy2 rfl (by decide) _ ls.length (vcells ls) rfl (HT6.out.low.alloc _) ⟨w6.heap.size, 0, none⟩ 1 1 [.int .i64 v.s, .int .i64 v.r, .int .i64 v.n, .slice v.a v.l.length v.c] rfl (by simp) (accc.lie_new4 _ _ _ _ _ _) (by simp [Value.oneCell']) (by unfold maxLen; omega) (by omega) (by rw [size_new]; omega) ?_)
      intro v5 w5x hown hgr hat5
      obtain ⟨⟨a5, c5, rfl, ht5⟩, hk5, hbr5, hsz5⟩ := HPU.out v5 w5x hown hgr hat5
      have HT7 := Lib.hid ht5
      have HO7 := Lib.hid (show w5x.ownsRow w1.heap.size 45 4 (.slice a5 (ls.length + 1) c5) (ls.length + 1) (vcells (ls ++ [v])) from by have h := ht5.low; rw [List.length_append, List.length_singleton] at h; exact h)
      have HK7 := Lib.hid hk5
      have HB7 := Lib.hid hbr5
      obtain ⟨m0, m1, m2, m3, mz⟩ := blk4 hbr5
      obtain ⟨k0, k1, k2, k3⟩ := blk4f hbr5
      clear hown hgr hat5 ht5 hk5 hbr5
      go_wp2_with (at_builtin; refine wpl_append rfl (.tmp 100) (.tmp 101) 29 rfl w1.heap.size 45 j0 _ 4 48 Tryz.underlying29 hj hy0 hy1 hy2 rfl (by decide) _ (ls.length + 1) (vcells (ls ++ [v])) rfl HO7.out ah hs.length ch (vcells hs) rfl (row_nil HT7.out.high) (accc.vcells_len hs) (row_lie HT7.out.high) (vcells_one hs) (by unfold maxLen; omega) (by omega) hsz5 ?_)
      intro v9 w9 hown9 hgr9
      have hbr9 := (hgr9.block br (kit.blk HB7.out).2.2 (fun e => by have := (own_from HO7.out br (own_block HO7.out br e.symm)).1; omega)).trans HB7.out
      obtain ⟨n0, n1, n2, n3, nz⟩ := blk4 hbr9
      obtain ⟨l0, l1, l2, l3⟩ := blk4f hbr9
      have HO9 := Lib.hid hown9
      have HB9 := Lib.hid hbr9
      have HK9 := Lib.hid (keep_grown HK7.out hgr9 (fun g e => by have := (own_from HO7.out g (own_block HO7.out g e)).1; omega))
      clear hown9 hgr9 hbr9
      obtain ⟨a9, c9, rfl⟩ := own_shape HO9.out
      go_wp2_with fail
      go_ret
      refine ⟨rfl, ⟨HLB.out, a9, c9, put xs v, ?_, ?_, ?_, fun x hx => ?_⟩, ?_⟩
      · have h := hp_set HB9.out 3 (.slice a9 (ls.length + 1 + hs.length) c9)
        have e : (put xs v).length = ls.length + 1 + hs.length := by rw [HPUT.out, List.length_append, List.length_append, List.length_singleton]
        rw [e]
        exact h
      · have e : (put xs v).length = ls.length + 1 + hs.length := by rw [HPUT.out, List.length_append, List.length_append, List.length_singleton]
        rw [e]
        have hr : w9.ownsRow W.heap.size 45 4 (.slice a9 (ls.length + 1 + hs.length) c9) (ls.length + 1 + hs.length) (vcells (put xs v)) := by
          rw [HPUT.out, accc.vcells_append]
          exact own_mono HO9.out (by omega)
        refine own_kept hr (fun g hg => ?_)
        exact hp_set_ne (own_ne hr HB9.out (by decide) g hg)
      · rw [put_lv, HXS.out]
      · rcases put_mem hx with rfl | hx
        · exact HRD.out
        · exact HXR.out x hx
      · exact HK9.out.trans ((Keep.refl (fun k => k = br) w9).setCell (p := ⟨br, 3, none⟩) (.inr (show (fun k => k = br) br from rfl)) _)
end Go.Proofs.YtcaakiaenfkeaaaGreat.accv
/-
  What was saved, in memory (whose, how it stays); put of a note that says a promise.
-/
namespace Go.Proofs.YtcaakiaenfkeaaaGreat.pesv
open Go.ChangeShapes Go.WideShapes Go.ChangeAt Go.RowKit
open Go.Proofs.YtcaakiaenfkeaaaGreat.kit Go.Proofs.YtcaakiaenfkeaaaGreat.mapkit Go.Proofs.YtcaakiaenfkeaaaGreat.byt Go.Proofs.YtcaakiaenfkeaaaGreat.own Go.Proofs.YtcaakiaenfkeaaaGreat.accd Go.Proofs.YtcaakiaenfkeaaaGreat.accb Go.Proofs.YtcaakiaenfkeaaaGreat.acce Go.Proofs.YtcaakiaenfkeaaaGreat.chd Go.Proofs.YtcaakiaenfkeaaaGreat.che Go.Proofs.YtcaakiaenfkeaaaGreat.ownr Go.Proofs.YtcaakiaenfkeaaaGreat.pep Go.Proofs.YtcaakiaenfkeaaaGreat.peb Go.Proofs.YtcaakiaenfkeaaaGreat.pem Go.Proofs.YtcaakiaenfkeaaaGreat.pen Go.Proofs.YtcaakiaenfkeaaaGreat.pelo
set_option linter.unusedVariables false
set_option linter.unusedSimpArgs false
set_option maxHeartbeats 4000000
set_option maxRecDepth 100000

/-- What was saved: its block sb is j's own, what hangs on it all may read. -/
structure SavAt (w : World) (O : Owners) (j sb : Nat) (S : SvM) : Prop where
  clean : ownr.Clean w O
  me : j ≠ 0
  blk : w.heap[sb]? = some (.cells S.cells 33 (0, 0))
  tag : O sb = (j, 1)
  vr : Row w O ro 45 4 S.vs.a S.vs.c S.vs.l.length (vcells S.vs.l)
  vb : ∀ v ∈ S.vs.l, RoB w ⟨v.a, v.c, v.l⟩
  er : Row w O ro 47 2 S.en.a S.en.c S.en.l.length (S.en.l.flatMap Et.cells)
  eb : ∀ e ∈ S.en.l, RoB w ⟨e.a, e.c, e.l⟩
  im : RoB w S.im
theorem SavAt.fr {w w' : World} {O O' : Owners} {j sb : Nat} {S : SvM} {T : Tag → Prop} (h : SavAt w O j sb S) (F : Fr T w O w' O') (h0 : ¬ T ro) (h1 : ¬ T (j, 1)) : SavAt w' O' j sb S :=
  ⟨F.clean, h.me, F.hp h.blk (by rw [h.tag]; exact h1), (F.own sb (kit.blk h.blk).2.2).trans h.tag, h.vr.fr h0 F, fun v hv => (h.vb v hv).fr F, h.er.fr h0 F, fun e he => (h.eb e he).fr F, h.im.fr F⟩
theorem SavAt.below {w w' : World} {O : Owners} {j sb : Nat} {S : SvM} (h : SavAt w O j sb S) (hb : Below w.heap.size w w') : SavAt w' O j sb S := h.fr (T := fun _ => False) (Fr.of_below h.clean hb) (fun x => x) (fun x => x)
/-- What Keep leaves of a thing that is none of the saved block's. -/
theorem row_keep {w w' : World} {O : Owners} {sb size c n : Nat} {t : Tag} {T : TypeId} {a : Option Addr} {xs : List Value} {cs : Array Value} (h : Row w O t T size a c n xs) (k : Keep (fun k => k = sb) w w') (hb : w.heap[sb]? = some (.cells cs 33 (0, 0))) (hT : 33 ≠ T) : Row w' O t T size a c n xs :=
  ⟨own_kept h.row (fun g hg => k.block g (own_from h.row g hg).2 (own_ne h.row hb hT g hg)), h.tag⟩
theorem row_new {w w' : World} {O : Owners} {size c n base : Nat} {T : TypeId} {a : Option Addr} {xs : List Value} (h : w'.ownsRow base T size (.slice a n c) n xs) (hc : ownr.Clean w O) (hb : w.heap.size ≤ base) : Row w' O ro T size a c n xs :=
  ⟨own_mono h (Nat.zero_le _), fun g hg => hc g (Nat.le_trans hb (own_from h g hg).1)⟩
theorem still_saved : ¬ Still 33 := by rintro (e | e) <;> exact absurd e (by decide)
theorem kept_keep {w w' : World} {sb : Nat} {cs : Array Value} (k : Keep (fun k => k = sb) w w') (hb : w.heap[sb]? = some (.cells cs 33 (0, 0))) : Kept Still w w' :=
  fun g ds T hT hg => k.hp hg (by rintro rfl; rw [hb] at hg; simp only [Option.some.injEq, Obj.cells.injEq] at hg; exact still_saved (hg.2.1 ▸ hT))
theorem rob_keep {w w' : World} {sb : Nat} {cs : Array Value} {s : Sl Nat} (h : RoB w s) (k : Keep (fun k => k = sb) w w') (hb : w.heap[sb]? = some (.cells cs 33 (0, 0))) : RoB w' s := h.kept k.size (kept_keep k hb)
/-- Behind a call that has written in the saved block alone. -/
theorem SavAt.frame {w w' : World} {O : Owners} {j sb : Nat} {S : SvM} (h : SavAt w O j sb S) (k : Keep (fun k => k = sb) w w') : Fr (fun t => t = (j, 1)) w O w' O :=
  Fr.of_keep h.clean k (fun k _ e => by subst e; exact h.tag) (fun g cs T hT hg e => by
    subst e
    rw [h.blk] at hg
    simp only [Option.some.injEq, Obj.cells.injEq] at hg
    exact still_saved (hg.2.1 ▸ hT))
/-- The saved block alone has changed, none of its rows. -/
theorem SavAt.seen {w w' : World} {O : Owners} {j sb : Nat} {S : SvM} (p1 p2 : Int) (h : SavAt w O j sb S) (k : Keep (fun k => k = sb) w w') (hb : w'.heap[sb]? = some (.cells (SvM.cells { S with p1 := p1, p2 := p2 }) 33 (0, 0))) : SavAt w' O j sb { S with p1 := p1, p2 := p2 } :=
  ⟨h.clean.more k.size, h.me, hb, h.tag, row_keep h.vr k h.blk (by decide), fun v hv => rob_keep (h.vb v hv) k h.blk, row_keep h.er k h.blk (by decide), fun e he => rob_keep (h.eb e he) k h.blk, rob_keep h.im k h.blk⟩
def _root_.Go.Proofs.YtcaakiaenfkeaaaGreat.pelo.SvM.prom (S : SvM) (b : Int × Int) : SvM := if acca.lessB S.p1 S.p2 b.1 b.2 = true then { S with p1 := b.1, p2 := b.2 } else S
/-- The cells of the saved block. -/
def Cells6 (w : World) (sb : Nat) (S : SvM) : Prop :=
  w.cell? ⟨sb, 0, none⟩ = some (.int .i64 S.p1) ∧ w.cell? ⟨sb, 1, none⟩ = some (.int .i64 S.p2) ∧ w.cell? ⟨sb, 2, none⟩ = some (.slice S.vs.a S.vs.l.length S.vs.c) ∧ w.cell? ⟨sb, 3, none⟩ = some (.int .i64 S.ix) ∧ w.cell? ⟨sb, 4, none⟩ = some (.slice S.im.a S.im.l.length S.im.c) ∧ w.cell? ⟨sb, 5, none⟩ = some (.slice S.en.a S.en.l.length S.en.c) ∧ sb < w.heap.size ∧
  w.frozen? ⟨sb, 0, none⟩ = false ∧ w.frozen? ⟨sb, 1, none⟩ = false ∧ w.frozen? ⟨sb, 2, none⟩ = false ∧ w.frozen? ⟨sb, 3, none⟩ = false ∧ w.frozen? ⟨sb, 4, none⟩ = false ∧ w.frozen? ⟨sb, 5, none⟩ = false
theorem cells6 {w : World} {sb : Nat} {S : SvM} (h : w.heap[sb]? = some (.cells S.cells 33 (0, 0))) : Cells6 w sb S := by
  obtain ⟨h1, h2, h3⟩ := kit.blk h
  exact ⟨h1 0, h1 1, h1 2, h1 3, h1 4, h1 5, h3, h2 0, h2 1, h2 2, h2 3, h2 4, h2 5⟩
/-- The cells of a note in its box. -/
def CellsN (w : World) (nb : Nat) (n : NtM) : Prop :=
  w.cell? ⟨nb, 0, none⟩ = some (.int .i64 n.kind) ∧ w.cell? ⟨nb, 2, none⟩ = some (.int .i64 n.b1) ∧ w.cell? ⟨nb, 3, none⟩ = some (.int .i64 n.b2) ∧ w.cell? ⟨nb, 4, none⟩ = some (.int .i64 n.v.s) ∧ w.cell? ⟨nb, 5, none⟩ = some (.int .i64 n.v.r) ∧ w.cell? ⟨nb, 6, none⟩ = some (.int .i64 n.v.n) ∧ w.cell? ⟨nb, 7, none⟩ = some (.slice n.v.a n.v.l.length n.v.c) ∧ w.cell? ⟨nb, 8, none⟩ = some (.int .i64 n.e.s) ∧ w.cell? ⟨nb, 9, none⟩ = some (.slice n.e.a n.e.l.length n.e.c) ∧ nb < w.heap.size
theorem cellsN {w : World} {nb : Nat} {n : NtM} (h : w.heap[nb]? = some (.cells n.cells.toArray 51 (0, 0))) : CellsN w nb n := by
  obtain ⟨h1, h2, h3⟩ := kit.blk h
  exact ⟨h1 0, h1 2, h1 3, h1 4, h1 5, h1 6, h1 7, h1 8, h1 9, h3⟩

theorem put_prom (w : World) (O : Owners) (j sb : Nat) (S : SvM) (n : NtM) (h : SavAt w O j sb S) (hk : n.kind = 1) (h1 : 0 ≤ S.ix ∧ S.ix ≤ 1099511627776) (h2 : S.en.l.length ≤ 1000000000) :
    Calls Tryz.prog 10 #[.pointer (some ⟨sb, 0, none⟩), nval n] w fun e w' => e = .returned (.bool true) ∧ SavAt w' O j sb (S.prom (n.b1, n.b2)) ∧ Keep (fun k => k = sb) w w' := by
  obtain ⟨w1, hw1⟩ : ∃ w1, w1 = w.alloc (.cells n.cells.toArray 51) := ⟨_, rfl⟩
  have hb1 : Below w.heap.size w w1 := by rw [hw1]; exact below_new1 _ _
  have hn1 : w1.heap[w.heap.size]? = some (.cells n.cells.toArray 51 (0, 0)) := by rw [hw1]; exact hp_alloc_new _ _
  obtain ⟨nb, hnb⟩ : ∃ nb, nb = w.heap.size := ⟨_, rfl⟩
  rw [← hnb] at hn1
  obtain ⟨k0, k2, k3, -, -, -, -, -, -, kz⟩ := cellsN hn1
  rw [hk] at k0
  have hS1 := h.below hb1
  obtain ⟨s0, s1, s2, s3, s4, s5, sz, -⟩ := cells6 hS1.blk
  have hwc : IntKind.i64.wrap (S.ix + (S.en.l.length : Int)) = S.ix + S.en.l.length := IntWalk.i64_in _ (by omega)
  have HS1 := Lib.hid hS1
  have HN1 := Lib.hid hn1
  have HB1 := Lib.hid hb1
  have HW1 := Lib.hid hw1
  have HNB := Lib.hid hnb
  have HH := Lib.hid h
  simp only [NtM.cells, hk] at hw1
  simp only [nval, hk]
  clear hS1 hn1 hb1 hnb h
  have HW1 := Lib.hid hw1
  clear hw1
  go_enter Tryz.func10, Tryz.ntmps10
  go_wp2_with fail
  rw [← HW1.out, ← HNB.out]
  go_quiet (fail)
  obtain ⟨w2, hw2⟩ : ∃ w2 : World, w2 = w1.drewN nq := ⟨_, rfl⟩
  rw [← hw2]
  have HB2 := Lib.hid (show Below w1.heap.size w1 w2 by rw [hw2]; exact below_drewN (Below.refl _ w1) nq)
  clear s0 s1 s2 s3 s4 s5 sz k0 k2 k3 kz hw2
  obtain ⟨k0, k2, k3, -, -, -, -, -, -, kz⟩ := cellsN (hp_step HN1.out HB2.out)
  rw [hk] at k0
  obtain ⟨s0, s1, s2, s3, s4, s5, sz, -⟩ := cells6 (HS1.out.below HB2.out).blk
  have HLE := Lib.hid (acct.rless_any S.p1 S.p2 n.b1 n.b2 w2.drew)
  go_wp2_with fail
  go_still_tail 6, (by kernel_rfl)
  change wpList _ _ _ _ _ w2.drew
  go_wp2_with fail
  refine HLE.out.mono ?_; rintro e w3 ⟨rfl, hb3⟩
  have HB3 := Lib.hid (below_step HB2.out (below_step (below_drewN (Below.refl _ w2) 1) hb3))
  have HB03 := Lib.hid (below_step HB1.out HB3.out)
  clear s0 s1 s2 s3 s4 s5 sz k0 k2 k3 kz hb3 HLE
  obtain ⟨k0, k2, k3, -, -, -, -, -, -, kz⟩ := cellsN (hp_step HN1.out HB3.out)
  rw [hk] at k0
  obtain ⟨s0, s1, s2, s3, s4, s5, sz, f0, f1, f2, f3, f4, f5⟩ := cells6 (HS1.out.below HB3.out).blk
  cases hL : acca.lessB S.p1 S.p2 n.b1 n.b2 with
  | false =>
    have hP : SvM.prom S (n.b1, n.b2) = S := if_neg (by rw [hL]; simp)
    go_wp2_with fail
    go_ret
    exact ⟨rfl, by rw [hP]; exact HH.out.below HB03.out, Keep.of_below HB03.out⟩
  | true =>
    have hP : SvM.prom S (n.b1, n.b2) = { S with p1 := n.b1, p2 := n.b2 } := if_pos hL
    have hfin : SavAt ((w3.setCell ⟨sb, 0, none⟩ (.int .i64 n.b1)).setCell ⟨sb, 1, none⟩ (.int .i64 n.b2)) O j sb { S with p1 := n.b1, p2 := n.b2 } ∧ Keep (fun k => k = sb) w ((w3.setCell ⟨sb, 0, none⟩ (.int .i64 n.b1)).setCell ⟨sb, 1, none⟩ (.int .i64 n.b2)) := by
      have k := ((Keep.of_below (S := fun k => k = sb) HB03.out).setCell (p := ⟨sb, 0, none⟩) (.inr rfl) (.int .i64 n.b1)).setCell (p := ⟨sb, 1, none⟩) (.inr rfl) (.int .i64 n.b2)
      exact ⟨HH.out.seen n.b1 n.b2 k (hp_set (hp_set (HH.out.below HB03.out).blk 0 _) 1 _), k⟩
    have HFIN := Lib.hid hfin
    clear hfin
    go_wp2_with fail
    go_ret
    rw [hP]
    exact ⟨rfl, HFIN.out⟩
end Go.Proofs.YtcaakiaenfkeaaaGreat.pesv
