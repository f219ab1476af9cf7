/-
  The document's log (a list of places in no order): what its functions do.
-/
import Derived.Test.YtpnkohjppbgiaaaLogHS
namespace Go.Proofs.Ytpnkohjppbgiaaa.slotref
open Go.ChangeShapes Go.WideShapes Go.ChangeAt Go.RowKit
open Go.Proofs.Ytpnkohjppbgiaaa.kit Go.Proofs.Ytpnkohjppbgiaaa.logs
set_option linter.unusedVariables false
set_option linter.unusedSimpArgs false
set_option maxHeartbeats 1000000
set_option maxRecDepth 100000

abbrev HL := List (Int × ByteArray)
def RefAt (w : World) (base b : Nat) (F M : Int) (L : HL) : Prop :=
  base ≤ b ∧ ∃ a c, w.heap[b]? = some (.cells #[.int .i64 F, .int .i64 M, .slice a L.length c] 105 (0, 0)) ∧ w.ownsRow base 109 2 (.slice a L.length c) L.length (hflat L)
theorem RefAt.below {w w' : World} {base b : Nat} {F M : Int} {L : HL} (h : RefAt w base b F M L) (hb : Below w.heap.size w w') : RefAt w' base b F M L := by
  obtain ⟨h0, a, c, h1, h2⟩ := h
  exact ⟨h0, a, c, hp_step h1 hb, own_below h2 hb⟩
structure RFit (F M : Int) (L : HL) : Prop where
  f1 : 1 ≤ F
  f2 : F ≤ 1099511627776
  m1 : 1 ≤ M
  m2 : M ≤ 1024
  len : L.length ≤ 1024
  rng : ∀ k (hk : k < L.length), F ≤ (L[k]).1 ∧ (L[k]).1 < F + M

theorem own_row {w : World} {base : Nat} {a : Option Addr} {c : Nat} {l : HL} (h : w.ownsRow base 109 2 (.slice a l.length c) l.length (hflat l)) (k : Nat) (hk : k < l.length) :
    ∃ g, a = some ⟨g, 0, none⟩ ∧ base ≤ g ∧ g < w.heap.size ∧ w.cell? ⟨g, k * 2, none⟩ = some (.int .i64 l[k].1) ∧ w.cell? ⟨g, k * 2 + 1, none⟩ = some (.string l[k].2) ∧ (∀ o, w.frozen? ⟨g, o, none⟩ = false) ∧ l.length ≤ c ∧ ∃ cur, w.heap[g]? = some (.cells cur 109 (0, 0)) := by
  rcases h.2 with ⟨e, hz⟩ | ⟨g, cap, cur, e, hg, hh, hc, hm, hsz, hx⟩
  · omega
  · simp only [Value.slice.injEq] at e
    obtain ⟨rfl, e1, rfl⟩ := e
    have hb := blk hh
    have gt : ∀ i, i < l.length * 2 → w.cell? ⟨g, i, none⟩ = (hflat l)[i]? := by
      intro i hi
      rw [hb.1 i, ← hx, List.getElem?_take, if_pos hi, Array.getElem?_toList]
    refine ⟨g, rfl, hg, hb.2.2, ?_, ?_, hb.2.1, hc, cur, hh⟩
    · rw [gt _ (by omega)]; exact (hflat_get l k hk 0 (by omega)).trans rfl
    · rw [gt _ (by omega)]; exact (hflat_get l k hk 1 (by omega)).trans rfl

theorem rnew_ok (w : World) (f m : Int) : Calls Try.prog 37 #[.int .i64 f, .int .i64 m] w fun e w' => e = .returned (.pointer (some ⟨w.heap.size, 0, none⟩)) ∧ RefAt w' w.heap.size w.heap.size (min (max f 1) 1099511627776) (min (max m 1) 1024) [] ∧ Below w.heap.size w w' := by
  obtain ⟨q, hq⟩ : ∃ q, (if 1099511627776 < f then (1099511627776 : Int) else f) = q := ⟨_, rfl⟩
  obtain ⟨F, hF⟩ : ∃ q, q = min (max f 1) 1099511627776 := ⟨_, rfl⟩
  have hq2 : (if 1 < q then q else (1 : Int)) = F := by rw [hF, ← hq]; split <;> split <;> omega
  obtain ⟨r, hr⟩ : ∃ q, (if 1024 < m then (1024 : Int) else m) = q := ⟨_, rfl⟩
  obtain ⟨M, hM⟩ : ∃ q, q = min (max m 1) 1024 := ⟨_, rfl⟩
  have hr2 : (if 1 < r then r else (1 : Int)) = M := by rw [hM, ← hr]; split <;> split <;> omega
  rw [← hF, ← hM]
  clear hF hM
  go_enter Try.func37, Try.ntmps37
  go_wp2_with fail
  go_ret
  exact ⟨rfl, ⟨Nat.le_refl _, none, 0, hp_alloc_new w _, World.ownsRow_nil _ _ _ _⟩, below_new1 _ _⟩

/-- What a place holds. -/
def getL (L : HL) (i : Int) : ByteArray × Bool := match L.find? (fun x => x.1 == i) with | some x => (x.2, true) | none => (ByteArray.mk #[], false)
theorem getL_at : ∀ (L : HL) (k : Nat) (hk : k < L.length) (i : Int), (∀ j (hj : j < L.length), j < k → (L[j]).1 ≠ i) → (L[k]).1 = i → getL L i = ((L[k]).2, true) := by
  intro L
  induction L with
  | nil => intro k hk; simp at hk
  | cons x l ih =>
    intro k hk i ha he
    cases k with
    | zero =>
      simp only [List.getElem_cons_zero] at he ⊢
      simp [getL, List.find?, he]
    | succ k =>
      have h0 : (x.1 == i) = false := by have := ha 0 (by simp) (by omega); simpa using this
      have := ih k (by simpa using hk) i (fun j hj hjk => ha (j + 1) (by simpa using hj) (by omega)) he
      simp only [getL, List.find?, h0] at this ⊢
      exact this
theorem getL_none (L : HL) (i : Int) (h : ∀ j (hj : j < L.length), (L[j]).1 ≠ i) : getL L i = (ByteArray.mk #[], false) := by
  have : L.find? (fun x => x.1 == i) = none := by
    rw [List.find?_eq_none]
    intro x hx
    obtain ⟨j, hj, rfl⟩ := List.getElem_of_mem hx
    simpa using h j hj
  rw [getL, this]

theorem rget_ok (w : World) (base b : Nat) (F M : Int) (L : HL) (i : Int) (h : RefAt w base b F M L) (hl : L.length ≤ 1024) :
    Calls Try.prog 39 #[.pointer (some ⟨b, 0, none⟩), .int .i64 i] w fun e w' => e = .returned (.tuple #[.string (getL L i).1, .bool (getL L i).2]) ∧ w' = w := by
  obtain ⟨h0, a, c, h1, h2⟩ := h
  obtain ⟨c0, c1, c2, _, _, _, hz⟩ := blk3 h1
  have HR := Lib.hid (fun k hk => own_row h2 k hk)
  clear h1 h2
  go_enter Try.func39, Try.ntmps39
  go_wp2_with fail
  go_loopw [6] (fun s wr => ∃ k : Nat, k ≤ L.length ∧ s = .int .i64 k ∧ Hid (∀ j (hj : j < L.length), j < k → (L[j]).1 ≠ i) ∧ wr = w) (fun s _ => L.length - (intOf s).toNat)
  case atStart => exact ⟨0, Nat.zero_le _, rfl, fun j hj hk => absurd hk (by omega), rfl⟩
  case round =>
    obtain ⟨k, hk, rfl, hall, rfl⟩ := hrel
    have hw : IntKind.i64.wrap ((k : Int) + 1) = ((k + 1 : Nat) : Int) := by rw [IntWalk.i64_in _ (by omega)]; rfl
    by_cases hlt : k < L.length
    · obtain ⟨g, rfl, hg, hgz, r0, r1, _, _, _⟩ := HR.out k hlt
      by_cases he : (L[k]).1 = i
      · have HG := Lib.hid (getL_at L k hlt i hall.out he)
        rw [he] at r0
        clear he
        go_wp2_with fail
        exact bodyPost_ret (v := .tuple #[.string (L[k]).2, .bool true]) (by simp [results, Try.results39, go_sem]) rfl ⟨by rw [HG.out], rfl⟩
      · have hne : ((L[k]).1 == i) = false := by simpa using he
        have HE := Lib.hid he
        clear he
        go_wp2_with fail
        go_roundw
        case rel => exact ⟨k + 1, by omega, rfl, fun j hj hjk => by
          rcases Nat.lt_or_eq_of_le (Nat.le_of_lt_succ hjk) with h | rfl
          · exact hall.out j hj h
          · exact HE.out, trivial⟩
        case measure => simp [intOf]; omega
    · have HG := Lib.hid (getL_none L i (fun j hj => hall.out j hj (by omega)))
      go_wp2_with fail
      exact bodyPost_ret (v := .tuple #[.string (ByteArray.mk #[]), .bool false]) (by simp [results, Try.results39, go_sem]) rfl ⟨by rw [HG.out], rfl⟩

def topL (F : Int) (L : HL) : Int := L.foldl (fun t x => max t (x.1 + 1)) F
theorem rtop_ok (w : World) (base b : Nat) (F M : Int) (L : HL) (h : RefAt w base b F M L) (hF : RFit F M L) :
    Calls Try.prog 64 #[.pointer (some ⟨b, 0, none⟩)] w fun e w' => e = .returned (.int .i64 (topL F L)) ∧ w' = w := by
  obtain ⟨h0, a, c, h1, h2⟩ := h
  obtain ⟨c0, c1, c2, _, _, _, hz⟩ := blk3 h1
  have hl := hF.len; have hf1 := hF.f1; have hf2 := hF.f2; have hm2 := hF.m2
  have HR := Lib.hid (fun k hk => own_row h2 k hk)
  have HG := Lib.hid hF.rng
  clear h1 h2 hF
  go_enter Try.func64, Try.ntmps64
  go_wp2_with fail
  go_loopw [3, 4] (fun t s wr => ∃ k : Nat, k ≤ L.length ∧ s = .int .i64 k ∧ t = .int .i64 (topL F (L.take k)) ∧ wr = w) (fun _ s _ => L.length - (intOf s).toNat)
  case atStart => exact ⟨0, Nat.zero_le _, rfl, rfl, rfl⟩
  case round =>
    obtain ⟨k, hk, rfl, rfl, rfl⟩ := hrel
    have hw : IntKind.i64.wrap ((k : Int) + 1) = ((k + 1 : Nat) : Int) := by rw [IntWalk.i64_in _ (by omega)]; rfl
    by_cases hlt : k < L.length
    · obtain ⟨g, rfl, hg, hgz, r0, r1, _, _, _⟩ := HR.out k hlt
      have hr := HG.out k hlt
      have hw2 : IntKind.i64.wrap ((L[k]).1 + 1) = (L[k]).1 + 1 := IntWalk.i64_in _ (by omega)
      have ht : topL F (L.take (k + 1)) = max (topL F (L.take k)) ((L[k]).1 + 1) := by rw [List.take_succ_eq_append_getElem hlt, topL, List.foldl_append]; rfl
      obtain ⟨T, hT⟩ : ∃ T, T = topL F (L.take k) := ⟨_, rfl⟩
      rw [← hT] at ht ⊢
      have HT := Lib.hid ht
      have hmx : (if T < (L[k]).1 + 1 then (L[k]).1 + 1 else T) = topL F (L.take (k + 1)) := by rw [ht]; split <;> omega
      clear ht hT hr
      go_wp2_with fail
      go_roundw
      case rel => exact ⟨k + 1, by omega, rfl, rfl, trivial⟩
      case measure => simp [intOf]; omega
    · obtain rfl : k = L.length := by omega
      rw [List.take_length]
      go_wp2_with fail
      go_ret
      exact ⟨rfl, rfl⟩

theorem rnext_ok (w : World) (base b : Nat) (F M : Int) (L : HL) (h : RefAt w base b F M L) (hF : RFit F M L) (n : Nat) (hn : n ≤ 1024) (h1 : ∀ j, j < n → (getL L (F + j)).2 = true) (h2 : (getL L (F + n)).2 = false) :
    Calls Try.prog 63 #[.pointer (some ⟨b, 0, none⟩)] w fun e w' => e = .returned (.int .i64 (F + n)) ∧ w' = w := by
  have HG := Lib.hid (fun i => rget_ok w base b F M L i h hF.len)
  obtain ⟨h0, a, c, g1, g2⟩ := h
  obtain ⟨c0, c1, c2, _, _, _, hz⟩ := blk3 g1
  have hl := hF.len; have hf1 := hF.f1; have hf2 := hF.f2
  have H1 := Lib.hid h1
  have H2 := Lib.hid h2
  clear g1 g2 hF h1 h2
  go_enter Try.func63, Try.ntmps63
  go_wp2_with fail
  go_loopw [3] (fun s wr => ∃ k : Nat, k ≤ n ∧ s = .int .i64 (F + k) ∧ wr = w) (fun s _ => (F + n - intOf s).toNat)
  case atStart => exact ⟨0, Nat.zero_le _, by simp, rfl⟩
  case round =>
    obtain ⟨k, hk, rfl, rfl⟩ := hrel
    have hw : IntKind.i64.wrap (F + (k : Int) + 1) = F + (k + 1 : Nat) := by rw [IntWalk.i64_in _ (by omega)]; omega
    have HGk := Lib.hid (HG.out (F + k))
    by_cases hlt : k < n
    · have hf := H1.out k hlt
      go_wp2_with fail
      refine HGk.out.mono ?_; rintro e w1 ⟨rfl, rfl⟩
      rw [hf]
      clear hf
      go_wp2_with fail
      go_roundw
      case rel => exact ⟨k + 1, by omega, by congr 1, trivial⟩
      case measure => simp [intOf]; omega
    · obtain rfl : k = n := by omega
      go_wp2_with fail
      refine HGk.out.mono ?_; rintro e w1 ⟨rfl, rfl⟩
      rw [H2.out]
      go_wp2_with fail
      go_ret
      exact ⟨rfl, rfl⟩

theorem infoHeldR : (Try.prog.info? 109).map (fun i => (i.zero, i.size, i.bytes)) = some (some (.agg #[.int .i64 0, .string (ByteArray.mk #[])]), 2, 24) := by kernel_rfl
theorem rown_apart {w : World} {base b : Nat} {a : Option Addr} {n c : Nat} {xs : List Value} {cs : Array Value} (h : w.ownsRow base 109 2 (.slice a n c) n xs) (hb : w.heap[b]? = some (.cells cs 105 (0, 0))) : ∀ g, a = some ⟨g, 0, none⟩ → g ≠ b := by
  rintro g rfl rfl
  rcases h.2 with ⟨e, hz⟩ | ⟨g', cap, cur, e, hg, hh, _⟩
  · simp at e
  · simp only [Value.slice.injEq, Option.some.injEq, Addr.mk.injEq, and_true] at e
    obtain ⟨rfl, _⟩ := e
    rw [hb] at hh
    simp only [Option.some.injEq, Obj.cells.injEq] at hh
    exact absurd hh.2.1 (by decide)
/-- What Put does. -/
def putL : HL → Int → ByteArray → HL
  | [], i, v => [(i, v)]
  | x :: L, i, v => if x.1 = i then (i, v) :: L else x :: putL L i v
theorem putL_at : ∀ (L : HL) (k : Nat) (hk : k < L.length) (i : Int) (v : ByteArray), (∀ j (hj : j < L.length), j < k → (L[j]).1 ≠ i) → (L[k]).1 = i → putL L i v = L.set k (i, v) := by
  intro L
  induction L with
  | nil => intro k hk; simp at hk
  | cons x l ih =>
    intro k hk i v ha he
    cases k with
    | zero =>
      simp only [List.getElem_cons_zero] at he
      rw [putL, if_pos he, List.set_cons_zero]
    | succ k =>
      rw [putL, if_neg (show ¬ x.1 = i from ha 0 (by simp) (by omega)), List.set_cons_succ, ih k (by simpa using hk) i v (fun j hj hjk => ha (j + 1) (by simpa using hj) (by omega)) he]
theorem putL_none : ∀ (L : HL) (i : Int) (v : ByteArray), (∀ j (hj : j < L.length), (L[j]).1 ≠ i) → putL L i v = L ++ [(i, v)] := by
  intro L
  induction L with
  | nil => intro i v _; rfl
  | cons x l ih =>
    intro i v ha
    rw [putL, if_neg (show ¬ x.1 = i from ha 0 (by simp)), ih i v (fun j hj => ha (j + 1) (by simpa using hj))]; rfl
theorem hflat_set (l : HL) (k : Nat) (hk : k < l.length) (x : Int) (y : ByteArray) (hx : (l[k]).1 = x) : hflat (l.set k (x, y)) = (hflat l).set (k * 2 + 1) (.string y) := by
  induction l generalizing k with
  | nil => simp at hk
  | cons u l ih =>
    have e : ∀ z (m : HL), hflat (z :: m) = hcel z ++ hflat m := by intro z m; simp [hflat]
    cases k with
    | zero =>
      simp only [List.getElem_cons_zero] at hx
      rw [List.set_cons_zero, e, e, ← hx]; rfl
    | succ k =>
      rw [List.set_cons_succ, e, e, ih k (by simpa using hk) (by simpa using hx)]
      simp only [hcel, show (k + 1) * 2 + 1 = k * 2 + 1 + 1 + 1 by omega, List.cons_append, List.nil_append, List.set_cons_succ]
theorem rown_set {w : World} {base g : Nat} {n c k : Nat} {l : HL} (h : w.ownsRow base 109 2 (.slice (some ⟨g, 0, none⟩) n c) n (hflat l)) (hk : k < l.length) (x : Int) (y : ByteArray) (hx : (l[k]).1 = x) :
    (w.setCell ⟨g, k * 2 + 1, none⟩ (.string y)).ownsRow base 109 2 (.slice (some ⟨g, 0, none⟩) n c) n (hflat (l.set k (x, y))) := by
  obtain ⟨h1, h2⟩ := h
  rw [hflat_set l k hk x y hx]
  refine ⟨by rw [List.length_set]; exact h1, ?_⟩
  rcases h2 with ⟨e, hz⟩ | ⟨g', cap, cur, e, hg, hh, hc, hm, hsz, hx⟩
  · simp at e
  · simp only [Value.slice.injEq, Option.some.injEq, Addr.mk.injEq, and_true, true_and] at e
    obtain ⟨rfl, rfl⟩ := e
    refine .inr ⟨g, c, _, rfl, hg, hp_set hh _ _, hc, hm, by simp [hsz], ?_⟩
    rw [← hx]
    simp only [Array.toList_setIfInBounds, List.take_set]
theorem rlog_append {w w5 : World} {base b : Nat} {f m : Int} {a : Option Addr} {n c : Nat} {xs ys : List Value} {v5 : Value}
    (hrow : w.heap[b]? = some (.cells #[.int .i64 f, .int .i64 m, .slice a n c] 105 (0, 0))) (hown : w.ownsRow base 109 2 (.slice a n c) n xs)
    (hgr : w.grownBy w5 (Value.slice a n c).ownBlock) (hown5 : w5.ownsRow base 109 2 v5 (n + 1) ys) :
    ∃ a' c', v5 = .slice a' (n + 1) c' ∧ w5.heap[b]? = some (.cells #[.int .i64 f, .int .i64 m, .slice a n c] 105 (0, 0)) ∧
      (w5.setCell ⟨b, 2, none⟩ v5).heap[b]? = some (.cells #[.int .i64 f, .int .i64 m, v5] 105 (0, 0)) ∧ (w5.setCell ⟨b, 2, none⟩ v5).ownsRow base 109 2 v5 (n + 1) ys := by
  obtain ⟨a', c', rfl⟩ := own_shape hown5
  have hne : (Value.slice a n c).ownBlock ≠ some b := by
    intro e
    rcases hown.2 with ⟨e', _⟩ | ⟨g', cap, cur, e', hg, hh, _⟩
    · rw [e'] at e; simp [Value.ownBlock] at e
    · rw [e'] at e
      simp only [Value.ownBlock, Option.some.injEq] at e
      have e2 : a = some ⟨g', 0, none⟩ := by simp only [Value.slice.injEq] at e'; exact e'.1
      exact rown_apart hown hrow g' e2 e
  have h5 : w5.heap[b]? = some (.cells #[.int .i64 f, .int .i64 m, .slice a n c] 105 (0, 0)) := (hgr.block b (blk3 hrow).2.2.2.2.2.2 (fun e => hne e.symm)).trans hrow
  exact ⟨a', c', rfl, h5, hp_set h5 2 _, own_kept hown5 (fun g hg => hp_set_ne (rown_apart hown5 h5 g hg))⟩

theorem rput_ty (w : World) (base b : Nat) (F M : Int) (L : HL) (i : Int) (v : ByteArray) (h : RefAt w base b F M L) (hF : RFit F M L) (hbw : base ≤ w.heap.size) (hi1 : -9223372036854775808 ≤ i) (hi2 : i ≤ 9223372036854775807) :
    Calls Try.prog 43 #[.pointer (some ⟨b, 0, none⟩), .int .i64 i, .string v] w fun e w' => e = .returned (.int .i64 (putE F M i)) ∧ RefAt w' base b F M (if i < F ∨ M ≤ i - F then L else putL L i v) ∧ Below base w w' ∧ KeepTy 105 109 w w' := by
  have hL := h
  obtain ⟨h0, a, c, h1, h2⟩ := h
  obtain ⟨c0, c1, c2, f0, f1, f2, hz⟩ := blk3 h1
  have hl := hF.len; have hf1 := hF.f1; have hf2 := hF.f2; have hm2 := hF.m2
  by_cases hlt : i < F
  · rw [if_pos (.inl hlt), putE, if_pos hlt]
    go_enter Try.func43, Try.ntmps43
    go_wp2_with fail
    go_ret
    exact ⟨rfl, hL, Below.refl _ _, KeepTy.refl _ _ _⟩
  · have hlt' : F ≤ i := by omega
    have hw0 : IntKind.i64.wrap (i - F) = i - F := IntWalk.i64_in _ (by omega)
    by_cases hge : M ≤ i - F
    · rw [if_pos (.inr hge), putE, if_neg hlt, if_pos hge]
      go_enter Try.func43, Try.ntmps43
      go_wp2_with fail
      go_quiet (fail)
      go_wp2_with fail
      go_ret
      exact ⟨rfl, hL.below (below_drewN (Below.refl _ _) _), below_drewN (Below.refl _ _) _, KeepTy.of_below (below_drewN (Below.refl _ _) _)⟩
    · rw [if_neg (by omega), putE, if_neg hlt, if_neg hge]
      have hge' : i - F < M := by omega
      obtain ⟨j0, hj, hy0, hy1, hy2⟩ := info_parts infoHeldR
      have HR : Hid (∀ wr, Below w.heap.size w wr → ∀ k (hk : k < L.length), ∃ g, a = some ⟨g, 0, none⟩ ∧ base ≤ g ∧ g < wr.heap.size ∧ wr.cell? ⟨g, k * 2, none⟩ = some (.int .i64 L[k].1) ∧ wr.cell? ⟨g, k * 2 + 1, none⟩ = some (.string L[k].2) ∧ (∀ o, wr.frozen? ⟨g, o, none⟩ = false) ∧ ∃ cur, wr.heap[g]? = some (.cells cur 109 (0, 0))) := by
        intro wr hb k hk
        obtain ⟨g, e, q1, q2, q3, q4, q5, _, q6⟩ := own_row (own_below h2 hb) k hk
        exact ⟨g, e, q1, q2, q3, q4, q5, q6⟩
      have H1 := Lib.hid h1
      have H2 := Lib.hid h2
      clear hL h1 h2
      go_enter Try.func43, Try.ntmps43
      go_wp2_with fail
      go_quiet (fail)
      go_wp2_with fail
      go_loopw [7] (fun s wr => ∃ k : Nat, k ≤ L.length ∧ s = .int .i64 k ∧ Hid (∀ j (hj : j < L.length), j < k → (L[j]).1 ≠ i) ∧ Hid (Below w.heap.size w wr)) (fun s _ => L.length - (intOf s).toNat)
      case atStart => exact ⟨0, Nat.zero_le _, rfl, fun j hj hk => absurd hk (by omega), below_drewN (Below.refl _ _) _⟩
      case round =>
        obtain ⟨k, hk, rfl, hall, hb⟩ := hrel
        have hw : IntKind.i64.wrap ((k : Int) + 1) = ((k + 1 : Nat) : Int) := by rw [IntWalk.i64_in _ (by omega)]; rfl
        obtain ⟨d0, d1, d2, e0, e1, e2, dz⟩ := blk3 (hp_step H1.out hb.out)
        by_cases hlt2 : k < L.length
        · obtain ⟨g, rfl, hg, hgz, r0, r1, rf, cur, hcur⟩ := HR.out wr hb.out k hlt2
          have HCU := Lib.hid hcur
          clear hcur
          have hr1 := rf (k * 2 + 1)
          by_cases he : (L[k]).1 = i
          · have HG := Lib.hid (putL_at L k hlt2 i v hall.out he)
            have HE := Lib.hid he
            rw [he] at r0
            clear he rf
            go_wp2_with fail
            go_ret
            have hn := hp_step H1.out hb.out
            have ho := own_below H2.out hb.out
            refine ⟨rfl, ⟨h0, some ⟨g, 0, none⟩, c, ?_, ?_⟩, ((Below.mono hb.out hbw)).setCell (p := ⟨g, k * 2 + 1, none⟩) hg _, (KeepTy.of_below hb.out).set (p := ⟨g, k * 2 + 1, none⟩) HCU.out (.inr rfl) _⟩
            · rw [HG.out, List.length_set]
              exact (hp_set_ne (a := ⟨g, k * 2 + 1, none⟩) (rown_apart ho hn g rfl).symm).trans hn
            · rw [HG.out, List.length_set]
              exact rown_set ho hlt2 i v HE.out
          · have hne : ((L[k]).1 == i) = false := by simpa using he
            have HE := Lib.hid he
            clear he rf
            go_wp2_with fail
            go_roundw
            case rel => exact ⟨k + 1, by omega, rfl, fun j hj hjk => by
              rcases Nat.lt_or_eq_of_le (Nat.le_of_lt_succ hjk) with h | rfl
              · exact hall.out j hj h
              · exact HE.out, hb⟩
            case measure => simp [intOf]; omega
        · have HG := Lib.hid (putL_none L i v (fun j hj => hall.out j hj (by omega)))
          have HN4 := Lib.hid (hp_step H1.out hb.out)
          have HO4 := Lib.hid (own_below H2.out hb.out)
          have hs5 := hb.out.size
          go_wp2_with (at_builtin; refine wpl_append rfl (.tmp 56) (.tmp 60) 103 rfl base 109 j0 _ 2 24 Try.underlying103 hj hy0 hy1 hy2 rfl (by decide) (.slice a L.length c) L.length (hflat L) rfl (HO4.out.alloc _) (some ⟨wr.heap.size, 0, none⟩) 1 1 (hcel (i, v)) rfl (by simp) rfl ?hL (by simp [hcel, Value.oneCell']) (by unfold maxLen; omega) (by omega) ?hB ?_)
          case hL => exact .inr ⟨_, 0, rfl, by rw [size_new]; omega, fun i hi => by rw [Nat.zero_add, (blk (hp_alloc_new _ _)).1]; match i, hi with | 0, _ => rfl | 1, _ => rfl⟩
          case hB => rw [size_new]; omega
          intro v5 w5 hown hgr
          obtain ⟨a5, n5, rfl, hn5, hn6, ho6⟩ := rlog_append (hp_new HN4.out) (HO4.out.alloc _) hgr hown
          have hB5 : Below base w w5 := (Below.mono hb.out hbw |>.alloc (by omega) _).grown hgr (by rw [size_new]; omega) (fun j hj => (HO4.out.lt j hj).1)
          have hB6 := Lib.hid (hB5.setCell (p := ⟨b, 2, none⟩) h0 (.slice a5 (L.length + 1) n5))
          have HT6 := Lib.hid (((KeepTy.of_below (T1 := 105) hb.out).app HO4.out hgr).set (p := ⟨b, 2, none⟩) hn5 (.inl rfl) (.slice a5 (L.length + 1) n5))
          obtain ⟨e0, e1, e2, x0, x1, x2, z5⟩ := blk3 hn5
          have HN6 := Lib.hid hn6
          have HO6 := Lib.hid ho6
          clear hn6 ho6 hn5 hown hgr hB5 d0 d1 d2
          go_wp2_with fail
          go_ret
          refine ⟨rfl, ⟨h0, a5, n5, ?_, ?_⟩, hB6.out, HT6.out⟩
          · rw [HG.out, List.length_append]; exact HN6.out
          · rw [HG.out, List.length_append, hflat_snoc]; exact HO6.out
theorem rput_ok (w : World) (base b : Nat) (F M : Int) (L : HL) (i : Int) (v : ByteArray) (h : RefAt w base b F M L) (hF : RFit F M L) (hbw : base ≤ w.heap.size) (hi1 : -9223372036854775808 ≤ i) (hi2 : i ≤ 9223372036854775807) :
    Calls Try.prog 43 #[.pointer (some ⟨b, 0, none⟩), .int .i64 i, .string v] w fun e w' => e = .returned (.int .i64 (putE F M i)) ∧ RefAt w' base b F M (if i < F ∨ M ≤ i - F then L else putL L i v) ∧ Below base w w' :=
  (rput_ty w base b F M L i v h hF hbw hi1 hi2).mono fun e w' ⟨h1, h2, h3, _⟩ => ⟨h1, h2, h3⟩

def cutL (L : HL) (i : Int) : HL := L.filter (fun x => decide (i ≤ x.1))
theorem cutL_snoc (L : HL) (i : Int) (k : Nat) (hk : k < L.length) : cutL (L.take (k + 1)) i = cutL (L.take k) i ++ (if i ≤ (L[k]).1 then [L[k]] else []) := by
  rw [List.take_succ_eq_append_getElem hk, cutL, List.filter_append]
  congr 1
  by_cases h : i ≤ (L[k]).1 <;> simp [List.filter, h]
theorem cutL_le (L : HL) (i : Int) : (cutL L i).length ≤ L.length := List.length_filter_le _ _

theorem rcut_ty (w : World) (base b : Nat) (F M : Int) (L : HL) (i : Int) (h : RefAt w base b F M L) (hF : RFit F M L) (hbw : base ≤ w.heap.size) :
    Calls Try.prog 41 #[.pointer (some ⟨b, 0, none⟩), .int .i64 i] w fun e w' => e = .returned (.int .i64 (if cutI F i then 0 else (L.length : Int) - (cutL L i).length)) ∧ RefAt w' base b (cutF F i) M (if cutI F i then L else cutL L i) ∧ Below base w w' ∧ KeepTy 105 109 w w' := by
  have hL := h
  obtain ⟨h0, a, c, h1, h2⟩ := h
  obtain ⟨c0, c1, c2, f0, f1, f2, hz⟩ := blk3 h1
  have hl := hF.len; have hf1 := hF.f1; have hf2 := hF.f2; have hm2 := hF.m2
  by_cases hc : cutI F i
  · rw [if_pos hc, if_pos hc, cutF, if_pos hc]
    by_cases hi : i ≤ F
    · clear hc
      go_enter Try.func41, Try.ntmps41
      go_wp2_with fail
      go_ret
      exact ⟨rfl, hL, Below.refl _ _, KeepTy.refl _ _ _⟩
    · have hi' : F < i := by omega
      have hi2 : 1099511627776 < i := by unfold cutI at hc; omega
      clear hc
      go_enter Try.func41, Try.ntmps41
      go_wp2_with fail
      go_ret
      exact ⟨rfl, hL, Below.refl _ _, KeepTy.refl _ _ _⟩
  · rw [if_neg hc, if_neg hc, cutF, if_neg hc]
    have hi1 : F < i := by unfold cutI at hc; omega
    have hi2 : i ≤ 1099511627776 := by unfold cutI at hc; omega
    obtain ⟨j0, hj, hy0, hy1, hy2⟩ := info_parts infoHeldR
    have HR : Hid (∀ wr, Below w.heap.size w wr → ∀ k (hk : k < L.length), ∃ g, a = some ⟨g, 0, none⟩ ∧ base ≤ g ∧ g < wr.heap.size ∧ wr.cell? ⟨g, k * 2, none⟩ = some (.int .i64 L[k].1) ∧ wr.cell? ⟨g, k * 2 + 1, none⟩ = some (.string L[k].2)) := by
      intro wr hb k hk
      obtain ⟨g, e, q1, q2, q3, q4, q5, _⟩ := own_row (own_below h2 hb) k hk
      exact ⟨g, e, q1, q2, q3, q4⟩
    have H1 := Lib.hid h1
    clear hL h1 h2 hc
    go_enter Try.func41, Try.ntmps41
    go_wp2_with fail
    go_loopw [5, 6] (fun t s wr => ∃ (k n : Nat) (ao : Option Addr) (co : Nat), k ≤ L.length ∧ s = .int .i64 k ∧ t = .slice ao n co ∧ Hid (n = (cutL (L.take k) i).length) ∧ Hid (wr.ownsRow w.heap.size 109 2 (.slice ao n co) n (hflat (cutL (L.take k) i))) ∧ Hid (Below w.heap.size w wr)) (fun _ s _ => L.length - (intOf s).toNat)
    case atStart => exact ⟨0, 0, none, 0, Nat.zero_le _, rfl, rfl, rfl, World.ownsRow_nil _ _ _ _, Below.refl _ _⟩
    case round =>
      obtain ⟨k, n, ao, co, hk, rfl, rfl, hn, ho, hb⟩ := hrel
      have hw : IntKind.i64.wrap ((k : Int) + 1) = ((k + 1 : Nat) : Int) := by rw [IntWalk.i64_in _ (by omega)]; rfl
      have hnk : n ≤ k := by have h1 := cutL_le (L.take k) i; have h2 := List.length_take_le k L; have := hn.out; omega
      have hn1 := hp_step H1.out hb.out
      obtain ⟨d0, d1, d2, e0, e1, e2, dz⟩ := blk3 hn1
      have hs := hb.out.size
      clear c0 c1 c2 f0 f1 f2 hz
      by_cases hlt : k < L.length
      · obtain ⟨g, rfl, hg, hgz, r0, r1⟩ := HR.out wr hb.out k hlt
        have HS := Lib.hid (cutL_snoc L i k hlt)
        have HN1 := Lib.hid hn1
        clear hn1
        by_cases hge : i ≤ (L[k]).1
        · have HS2 : Hid (cutL (L.take (k + 1)) i = cutL (L.take k) i ++ [((L[k]).1, (L[k]).2)]) := Lib.hid (by rw [HS.out, if_pos hge])
          go_wp2_with (at_builtin; refine wpl_append rfl (.tmp 37) (.tmp 45) 103 rfl w.heap.size 109 j0 _ 2 24 Try.underlying103 hj hy0 hy1 hy2 rfl (by decide) (.slice ao n co) n (hflat (cutL (L.take k) i)) rfl (ho.out.alloc _) (some ⟨wr.heap.size, 0, none⟩) 1 1 (hcel ((L[k]).1, (L[k]).2)) rfl (by simp) rfl ?hL (by simp [hcel, Value.oneCell']) (by unfold maxLen; omega) (by omega) ?hB ?_)
          case hL => exact .inr ⟨_, 0, rfl, by rw [size_new]; omega, fun i hi => by rw [Nat.zero_add, (blk (hp_alloc_new _ _)).1]; match i, hi with | 0, _ => rfl | 1, _ => rfl⟩
          case hB => rw [size_new]; omega
          intro v5 w5 hown hgr
          obtain ⟨a5, n5, rfl⟩ := own_shape hown
          have hB5 := Lib.hid ((hb.out.alloc hs _).grown hgr (by rw [size_new]; omega) (fun j hj => (ho.out.lt j hj).1))
          have HO5 := Lib.hid hown
          clear hown hgr d0 d1 d2 r0 r1 e0 e1 e2
          go_wp2_with fail
          go_roundw
          case rel => exact ⟨k + 1, n + 1, a5, n5, by omega, rfl, rfl, by rw [HS2.out, List.length_append, ← hn.out]; rfl, by rw [HS2.out, hflat_snoc]; exact HO5.out, hB5⟩
          case measure => simp [intOf]; omega
        · have HS2 : Hid (cutL (L.take (k + 1)) i = cutL (L.take k) i) := Lib.hid (by rw [HS.out, if_neg hge, List.append_nil])
          have hge' : (L[k]).1 < i := by omega
          clear hge
          go_wp2_with fail
          go_roundw
          case rel => exact ⟨k + 1, n, ao, co, by omega, rfl, rfl, by rw [HS2.out]; exact hn, by rw [HS2.out]; exact ho, hb⟩
          case measure => simp [intOf]; omega
      · obtain rfl : k = L.length := by omega
        rw [List.take_length] at hn ho
        have hw3 : IntKind.i64.wrap ((L.length : Int) - (n : Int)) = (L.length : Int) - n := IntWalk.i64_in _ (by omega)
        have HN1 := Lib.hid hn1
        clear hn1
        go_wp2_with fail
        go_ret
        refine ⟨by rw [← hn.out]; rfl, ?_, (((Below.mono hb.out hbw)).setCell (p := ⟨b, 2, none⟩) h0 _).setCell (p := ⟨b, 0, none⟩) h0 _, ((KeepTy.of_below hb.out).set (p := ⟨b, 2, none⟩) HN1.out (.inl rfl) _).set (p := ⟨b, 0, none⟩) (hp_set HN1.out 2 _) (.inl rfl) _⟩
        refine ⟨h0, ao, co, by rw [← hn.out]; exact hp_set (hp_set HN1.out 2 _) 0 _, ?_⟩
        rw [← hn.out]
        refine own_kept (own_mono ho.out hbw) (fun g hg => ?_)
        have hgb : g ≠ b := fun e => by
          have := (own_from ho.out g hg).1
          have := (blk3 H1.out).2.2.2.2.2.2
          omega
        exact (hp_set_ne (a := ⟨b, 0, none⟩) hgb).trans (hp_set_ne (a := ⟨b, 2, none⟩) hgb)
theorem rcut_ok (w : World) (base b : Nat) (F M : Int) (L : HL) (i : Int) (h : RefAt w base b F M L) (hF : RFit F M L) (hbw : base ≤ w.heap.size) :
    Calls Try.prog 41 #[.pointer (some ⟨b, 0, none⟩), .int .i64 i] w fun e w' => e = .returned (.int .i64 (if cutI F i then 0 else (L.length : Int) - (cutL L i).length)) ∧ RefAt w' base b (cutF F i) M (if cutI F i then L else cutL L i) ∧ Below base w w' :=
  (rcut_ty w base b F M L i h hF hbw).mono fun e w' ⟨h1, h2, h3, _⟩ => ⟨h1, h2, h3⟩
theorem RefAt.keepTy {T1 T2 : TypeId} {w w' : World} {base b : Nat} {F M : Int} {L : HL} (h : RefAt w base b F M L) (k : KeepTy T1 T2 w w') (h1 : 105 ≠ T1) (h2 : 105 ≠ T2) (h3 : 109 ≠ T1) (h4 : 109 ≠ T2) : RefAt w' base b F M L := by
  obtain ⟨h0, a, c, q1, q2⟩ := h
  refine ⟨h0, a, c, k _ _ _ _ q1 h1 h2, q2.1, ?_⟩
  rcases q2.2 with e | ⟨g, cap, cur, e, hg, hh, r⟩
  · exact .inl e
  · exact .inr ⟨g, cap, cur, e, hg, k _ _ _ _ hh h3 h4, r⟩

def allR (F : Int) (L : HL) : Nat → HL
  | 0 => []
  | n + 1 => allR F L n ++ (if (getL L (F + n)).2 then [(F + n, (getL L (F + n)).1)] else [])
theorem allR_len (F : Int) (L : HL) (n : Nat) : (allR F L n).length ≤ n := by
  induction n with
  | zero => simp [allR]
  | succ n ih => simp only [allR, List.length_append]; split <;> simp <;> omega
theorem rall_ok (w : World) (base b : Nat) (F M : Int) (L : HL) (h : RefAt w base b F M L) (hF : RFit F M L) (N : Nat) (hN : N ≤ 1024) (hT : topL F L = F + N) :
    Calls Try.prog 62 #[.pointer (some ⟨b, 0, none⟩)] w fun e w' => ∃ v, e = .returned v ∧ w'.ownsRow w.heap.size 109 2 v (allR F L N).length (hflat (allR F L N)) ∧ Below w.heap.size w w' := by
  have hf1 := hF.f1; have hf2 := hF.f2
  have HG : Hid (∀ wr, Below w.heap.size w wr → ∀ i, Calls Try.prog 39 #[.pointer (some ⟨b, 0, none⟩), .int .i64 i] wr fun e w' => e = .returned (.tuple #[.string (getL L i).1, .bool (getL L i).2]) ∧ w' = wr) := fun wr hb i => rget_ok wr base b F M L i (h.below hb) hF.len
  have HTp : Hid (∀ wr, Below w.heap.size w wr → Calls Try.prog 64 #[.pointer (some ⟨b, 0, none⟩)] wr fun e w' => e = .returned (.int .i64 (F + N)) ∧ w' = wr) := fun wr hb => by
    have := rtop_ok wr base b F M L (h.below hb) hF
    rwa [hT] at this
  obtain ⟨h0, a, c, h1, h2⟩ := h
  obtain ⟨c0, c1, c2, f0, f1, f2, hz⟩ := blk3 h1
  obtain ⟨j0, hj, hy0, hy1, hy2⟩ := info_parts infoHeldR
  clear h1 h2 hF hT
  go_enter Try.func62, Try.ntmps62
  go_wp2_with fail
  clear c0 c1 c2 f0 f1 f2
  go_loopw [3, 4] (fun t s wr => ∃ (k n : Nat) (ao : Option Addr) (co : Nat), k ≤ N ∧ s = .int .i64 (F + k) ∧ t = .slice ao n co ∧ Hid (n = (allR F L k).length) ∧ Hid (wr.ownsRow w.heap.size 109 2 (.slice ao n co) n (hflat (allR F L k))) ∧ Hid (Below w.heap.size w wr)) (fun _ s _ => (F + N - intOf s).toNat)
  case atStart => exact ⟨0, 0, none, 0, Nat.zero_le _, by simp, rfl, rfl, World.ownsRow_nil _ _ _ _, Below.refl _ _⟩
  case round =>
    obtain ⟨k, n, ao, co, hk, rfl, rfl, hn, ho, hb⟩ := hrel
    have hw : IntKind.i64.wrap (F + (k : Int) + 1) = F + (k + 1 : Nat) := by rw [IntWalk.i64_in _ (by omega)]; omega
    have hnk : n ≤ k := by have h1 := allR_len F L k; have := hn.out; omega
    have HTk := Lib.hid (HTp.out wr hb.out)
    have hs := hb.out.size
    by_cases hlt : k < N
    · have HGk := Lib.hid (HG.out wr hb.out (F + k))
      have HS : Hid (allR F L (k + 1) = allR F L k ++ (if (getL L (F + k)).2 then [(F + (k : Int), (getL L (F + k)).1)] else [])) := rfl
      go_wp2_with fail
      refine HTk.out.mono ?_; rintro e w1 ⟨rfl, rfl⟩
      go_wp2_with fail
      refine HGk.out.mono ?_; rintro e w1 ⟨rfl, rfl⟩
      obtain ⟨⟨x, y⟩, hxy⟩ : ∃ p, p = getL L (F + k) := ⟨_, rfl⟩
      rw [← hxy] at HS ⊢
      clear hxy HGk HTk
      cases y with
      | true =>
        go_wp2_with (at_builtin; refine wpl_append rfl (.tmp 24) (.tmp 28) 103 rfl w.heap.size 109 j0 _ 2 24 Try.underlying103 hj hy0 hy1 hy2 rfl (by decide) (.slice ao n co) n (hflat (allR F L k)) rfl (ho.out.alloc _) (some ⟨w1.heap.size, 0, none⟩) 1 1 (hcel (F + k, x)) rfl (by simp) rfl ?hL (by simp [hcel, Value.oneCell']) (by unfold maxLen; omega) (by omega) ?hB ?_)
        case hL => exact .inr ⟨_, 0, rfl, by rw [size_new]; omega, fun i hi => by rw [Nat.zero_add, (blk (hp_alloc_new _ _)).1]; match i, hi with | 0, _ => rfl | 1, _ => rfl⟩
        case hB => rw [size_new]; omega
        intro v5 w5 hown hgr
        obtain ⟨a5, n5, rfl⟩ := own_shape hown
        have hB5 := Lib.hid ((hb.out.alloc hs _).grown hgr (by rw [size_new]; omega) (fun j hj => (ho.out.lt j hj).1))
        have HO5 := Lib.hid hown
        clear hown hgr
        go_wp2_with fail
        go_roundw
        case rel => exact ⟨k + 1, n + 1, a5, n5, by omega, by congr 1, rfl, by rw [HS.out, List.length_append, ← hn.out]; rfl, by rw [HS.out]; simp only [if_true]; rw [hflat_snoc]; exact HO5.out, hB5⟩
        case measure => simp [intOf]; omega
      | false =>
        go_wp2_with fail
        go_roundw
        case rel => exact ⟨k + 1, n, ao, co, by omega, by congr 1, rfl, by rw [HS.out]; simpa using hn, by rw [HS.out]; simpa using ho, hb⟩
        case measure => simp [intOf]; omega
    · obtain rfl : k = N := by omega
      go_wp2_with fail
      refine HTk.out.mono ?_; rintro e w1 ⟨rfl, rfl⟩
      go_wp2_with fail
      go_ret
      exact ⟨_, rfl, by rw [← hn.out]; exact ho.out, hb.out⟩

theorem own_cap {w : World} {base : Nat} {e : TypeId} {size n c : Nat} {a : Option Addr} {xs : List Value} (h : w.ownsRow base e size (.slice a n c) n xs) : n ≤ c := by
  rcases h.2 with ⟨e', hz⟩ | ⟨g', cap, cur, e', hg, hh, hc, _⟩
  · omega
  · simp only [Value.slice.injEq] at e'
    omega
end Go.Proofs.Ytpnkohjppbgiaaa.slotref
