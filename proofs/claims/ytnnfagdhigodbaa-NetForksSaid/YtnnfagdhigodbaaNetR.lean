/-
  A net on which a script was carried out.
-/
import Derived.Test.YtnnfagdhigodbaaNetQ
namespace Go.Proofs.Ytnnfagdhigodbaa.netr
open Go.ChangeShapes Go.WideShapes Go.ChangeAt Go.RowKit
open Go.Proofs.Ytnnfagdhigodbaa.kit Go.Proofs.Ytnnfagdhigodbaa.byt Go.Proofs.Ytnnfagdhigodbaa.netc Go.Proofs.Ytnnfagdhigodbaa.netg Go.Proofs.Ytnnfagdhigodbaa.nets Go.Proofs.Ytnnfagdhigodbaa.netq
set_option linter.unusedVariables false
set_option linter.unusedSimpArgs false
set_option maxHeartbeats 1000000
set_option maxRecDepth 100000

structure OpV where
  kind : Int
  a : Int
  b : Int
  ad : Option Addr
  c : Nat
  l : List Nat
def ocells (o : OpV) : List Value := [.int .i64 o.kind, .int .i64 o.a, .int .i64 o.b, .slice o.ad o.l.length o.c]
/-- What is known of a call that came in. -/
structure GoodO (w : World) (o : OpV) : Prop where
  lie : Lie w o.ad (bcells o.l)
  byt : Byt o.l
  nil : o.ad = none → o.l.length = 0 ∧ o.c = 0
  cap : o.l.length ≤ o.c
  len : o.c ≤ maxLen
theorem GoodO.below {w w' : World} {o : OpV} (h : GoodO w o) (hb : Below w.heap.size w w') : GoodO w' o := ⟨h.lie.below hb, h.byt, h.nil, h.cap, h.len⟩

section
variable {H : Type} {enc : TypeId × Value → H} {P : Program}
/-- A slice of integers, whatever its place. -/
theorem elem_ints {W : World} {t e : TypeId} {k : IntKind} {v : Value} {n : Nat} {y : DataW H × List MemPlace}
    (hs : P.underlying t = some (.slice e)) (he : P.underlying e = some (.int k)) (hC : P.cellsOf e = 1)
    (hf : DataW.trod enc P W 0 (fun _ => true) true n t [v] = some y) :
    ∃ (a : Option Addr) (l : List Int) (cap : Nat), v = .slice a l.length cap ∧ l.length ≤ cap ∧ cap ≤ maxLen ∧ (a = none → l.length = 0 ∧ cap = 0) ∧ Lie W a (l.map (Value.int k)) ∧ (∀ n ∈ l, (Lit.int k n).wf = true) := by
  rcases open_ints hs he hC hf with ⟨hcs, hx⟩ | ⟨a, len', cap', zs, hcs, _, hl, hm, hz, hx, hcell, hwz⟩
  · simp at hcs
    subst hcs
    exact ⟨none, [], 0, rfl, Nat.le_refl _, by simp [maxLen], by simp, .inl rfl, by simp⟩
  · simp at hcs
    subst hcs
    simp only [if_true] at hz
    have hlen : (zs.take len').length = len' := by simp; omega
    refine ⟨some a, zs.take len', cap', by rw [hlen], by omega, hm, by simp, ?_, fun n hn => hwz n (List.mem_of_mem_take hn)⟩
    by_cases h0 : len' = 0
    · left; simp [h0]
    · right
      obtain ⟨b, off, rfl, hc⟩ := ints_at hcell (by omega)
      refine ⟨b, off, rfl, cell_lt (hc 0 (by omega)), fun i hi => ?_⟩
      simp only [List.length_map, hlen] at hi
      rw [hc i (by omega)]
      simp [List.getElem?_take, hi]
      rw [List.getElem?_eq_getElem (by omega)]
      simp
end
theorem byte_wf {l : List Int} (h : ∀ n ∈ l, (Lit.int .u8 n).wf = true) : ∀ x ∈ l, 0 ≤ x ∧ x < 256 := by
  intro x hx
  have := h x hx
  simp [Lit.wf, IntKind.min, IntKind.max, IntKind.signed, IntKind.bits] at this
  omega
theorem nat_list (l : List Int) (h : ∀ x ∈ l, 0 ≤ x ∧ x < 256) : ∃ m : List Nat, l = m.map (fun x : Nat => (x : Int)) ∧ byt.Byt m := by
  induction l with
  | nil => exact ⟨[], rfl, by intro x hx; simp at hx⟩
  | cons x l ih =>
    obtain ⟨m, rfl, hm⟩ := ih fun y hy => h y (List.mem_cons_of_mem _ hy)
    have hx := h x (List.mem_cons_self ..)
    refine ⟨x.toNat :: m, by simp; omega, fun y hy => ?_⟩
    rcases List.mem_cons.1 hy with rfl | hy
    · omega
    · exact hm y hy
theorem bcells_of (m : List Nat) : (m.map (fun x : Nat => (x : Int))).map (Value.int .u8) = byt.bcells m := by simp [byt.bcells]
theorem list4' {α : Type} {l : List α} (h : l.length = 4) : ∃ a b c d, l = [a, b, c, d] := by
  match l, h with | [a, b, c, d], _ => exact ⟨a, b, c, d, rfl⟩

theorem elem_op {H : Type} {enc : TypeId × Value → H} {W : World} (n : Nat) (cs : List Value) (y : DataW H × List MemPlace) (h : DataW.trod enc Try.prog W 0 (fun _ => true) true n 42 cs = some y) :
    ∃ o : OpV, cs = ocells o ∧ GoodO W o := by
  obtain ⟨ys, n', hy, hyl, hcl, hf⟩ := struct_cells Try.underlying42 (by kernel_rfl) (by kernel_rfl) h
  obtain ⟨c0, c1, c2, c3, rfl⟩ := list4' hcl
  obtain ⟨v0, z0, e0, g0, t0⟩ := hf 0 _ rfl
  obtain ⟨v1, z1, e1, g1, t1⟩ := hf 1 _ rfl
  obtain ⟨v2, z2, e2, g2, t2⟩ := hf 2 _ rfl
  obtain ⟨v3, z3, e3, g3, t3⟩ := hf 3 _ rfl
  obtain ⟨a, ea, _, wa⟩ := DataW.trod_int Try.underlying3 t0
  obtain ⟨b, eb, _, wb⟩ := DataW.trod_int Try.underlying3 t1
  obtain ⟨c, ec, _, wc⟩ := DataW.trod_int Try.underlying3 t2
  obtain ⟨ad, l, cap, ed, hlc, hcm, hnil, hlie, hwf⟩ := elem_ints Try.underlying23 Try.underlying5 (by kernel_rfl) t3
  obtain ⟨m, rfl, hm⟩ := nat_list l (byte_wf hwf)
  rw [bcells_of] at hlie
  simp only [List.length_map] at *
  simp at e0 e1 e2 e3 ea eb ec
  subst e0 e1 e2 e3 ea eb ec ed
  exact ⟨⟨a, b, c, ad, cap, m⟩, rfl, ⟨hlie, hm, hnil, hlc, hcm⟩⟩

theorem row_op {w : World} {a : Option Addr} {l : List OpV} (h : RowsAt w a 4 (l.map ocells)) (k : Nat) (hk : k < l.length) :
    ∃ g off, a = some ⟨g, off, none⟩ ∧ g < w.heap.size ∧ w.cell? ⟨g, off + k * 4, none⟩ = some (.int .i64 l[k].kind) ∧ w.cell? ⟨g, off + k * 4 + 1, none⟩ = some (.int .i64 l[k].a) ∧ w.cell? ⟨g, off + k * 4 + 2, none⟩ = some (.int .i64 l[k].b) ∧ w.cell? ⟨g, off + k * 4 + 3, none⟩ = some (.slice l[k].ad l[k].l.length l[k].c) := by
  rcases h with h | ⟨b, off, rfl, hz, h3⟩
  · have : l = [] := by simpa using h
    subst this; simp at hk
  · have hi : k < (l.map ocells).length := by simpa using hk
    have e0 := h3 k hi 0 (by omega)
    have e1 := h3 k hi 1 (by omega)
    have e2 := h3 k hi 2 (by omega)
    have e3 := h3 k hi 3 (by omega)
    simp only [List.getElem_map, Nat.add_zero] at e0 e1 e2 e3
    exact ⟨b, off, rfl, hz, e0.trans rfl, e1.trans rfl, e2.trans rfl, e3.trans rfl⟩

structure St where
  qs : List Q
  S : Cuts
def step (m : Int) (s : St) (o : OpV) : St :=
  if o.kind = 1 then ⟨takeQ s.qs o.a, s.S⟩ else if o.kind = 2 then ⟨takeQ s.qs o.a, s.S⟩ else if o.kind = 3 then ⟨dblQ s.qs o.a, s.S⟩ else if o.kind = 4 then ⟨s.qs, cutS m s.S o.a o.b⟩ else if o.kind = 5 then ⟨s.qs, []⟩ else ⟨sendQ m s.qs s.S o.a o.b o.l, s.S⟩
def stOf (m : Int) (l : List OpV) : St := l.foldl (step m) ⟨[], []⟩
theorem stOf_snoc (m : Int) (l : List OpV) (k : Nat) (hk : k < l.length) : stOf m (l.take (k + 1)) = step m (stOf m (l.take k)) l[k] := by
  rw [List.take_succ_eq_append_getElem hk, stOf, List.foldl_append]; rfl
theorem step_fit {m : Int} {s : St} (h : Fit s.qs) (o : OpV) : Fit (step m s o).qs := by
  unfold step
  repeat' split
  · exact h.take _
  · exact h.take _
  · exact h.dbl _
  · exact h
  · exact h
  · exact h.send _ _ _ _
theorem stOf_fit (m : Int) (l : List OpV) : Fit (stOf m l).qs := by
  have : ∀ (l : List OpV) (s : St), Fit s.qs → Fit (l.foldl (step m) s).qs := by
    intro l
    induction l with
    | nil => exact fun s h => h
    | cons o l ih => exact fun s h => ih _ (step_fit h o)
  exact this l _ Fit.nil

/-- How many nodes a law's net has. -/
def most (n0 : Int) : Int := 1 + (IntKind.u64.wrap n0).tmod 5
theorem most_in (n0 : Int) : 1 ≤ most n0 ∧ most n0 ≤ 5 := by
  have h := wrap_u64_nonneg n0
  have h1 := Int.tmod_nonneg 5 h
  have h2 := Int.tmod_lt_of_pos (IntKind.u64.wrap n0) (b := 5) (by omega)
  unfold most
  omega
theorem most_wrap (n0 : Int) : wrap64 (1 + wrap64 ((IntKind.u64.wrap n0).tmod 5)) = most n0 := by
  have h := wrap_u64_nonneg n0
  have h1 := Int.tmod_nonneg 5 h
  have h2 := Int.tmod_lt_of_pos (IntKind.u64.wrap n0) (b := 5) (by omega)
  unfold most wrap64
  omega

theorem ran_ok (w : World) (n0 : Int) (a : Option Addr) (l : List OpV) (cap : Nat) (hl : l.length ≤ 9223372036854775807) (hat : RowsAt w a 4 (l.map ocells)) (hok : ∀ k (hk : k < l.length), GoodO w (l[k])) :
    Calls Try.prog 9 #[.int .i64 n0, .slice a l.length cap] w fun e w' => e = .returned (.pointer (some ⟨w.heap.size + 1, 0, none⟩)) ∧
      NetIs w' w.heap.size (w.heap.size + 1) (most n0) (stOf (most n0) l).qs (stOf (most n0) l).S ∧ Below w.heap.size w w' := by
  obtain ⟨hm1, hm2⟩ := most_in n0
  have hw := most_wrap n0
  obtain ⟨m, hm⟩ : ∃ m, m = most n0 := ⟨_, rfl⟩
  rw [← hm] at hm1 hm2 hw ⊢
  have hN := Lib.hid (newq w m hm1 hm2)
  have HR := Lib.hid (fun (wr : World) (hb : Below w.heap.size w wr) k hk => row_op (hat.below hb) k hk)
  have HOK := Lib.hid (fun (wr : World) (hb : Below w.heap.size w wr) k hk => (hok k hk).below hb)
  clear hat hok hm hm1 hm2
  go_enter Try.func9, Try.ntmps9
  go_wp2_with fail
  rw [hw]
  clear hw
  refine hN.out.mono ?_; rintro e w1 ⟨rfl, hL1, hb1⟩
  have HL1 := Lib.hid hL1
  have HB1 := Lib.hid hb1
  clear hL1 hb1 hN
  go_wp2_with fail
  go_loopw [7] (fun i wr => ∃ k : Nat, k ≤ l.length ∧ i = .int .i64 k ∧ Hid (NetIs wr w.heap.size (w.heap.size + 1) m (stOf m (l.take k)).qs (stOf m (l.take k)).S) ∧ Hid (Below w.heap.size w wr)) (fun i _ => l.length - (intOf i).toNat)
  case atStart => exact ⟨0, Nat.zero_le _, rfl, HL1, HB1⟩
  case round =>
    obtain ⟨k, hk, rfl, hL, hB⟩ := hrel
    by_cases hlt : k < l.length
    · obtain ⟨g, off, rfl, hgz, r0, r1, r2, r3⟩ := HR.out wr hB.out k hlt
      have HS := Lib.hid (stOf_snoc m l k hlt)
      have HF := Lib.hid (stOf_fit m (l.take k))
      have HG := Lib.hid (HOK.out wr hB.out k hlt)
      obtain ⟨o, ho⟩ : ∃ o, o = l[k] := ⟨_, rfl⟩
      rw [← ho] at r0 r1 r2 r3 HS HG
      obtain ⟨wo, hwo⟩ : ∃ wo : World, wo = wr.alloc (.cells #[.int .i64 o.kind, .int .i64 o.a, .int .i64 o.b, .slice o.ad o.l.length o.c] 42) := ⟨_, rfl⟩
      have hBo := below_new1 wr (.cells #[.int .i64 o.kind, .int .i64 o.a, .int .i64 o.b, .slice o.ad o.l.length o.c] 42)
      have HL := Lib.hid (hL.out.below hBo)
      have HB := Lib.hid (below_step hB.out hBo)
      have HO := Lib.hid (HG.out.below hBo)
      clear ho hwo wo hBo
      have hsz : w.heap.size ≤ wr.heap.size + 1 := by have := hB.out.size; omega
      by_cases hk1 : o.kind = 1
      · have HST := Lib.hid (show stOf m (l.take (k + 1)) = ⟨takeQ (stOf m (l.take k)).qs o.a, (stOf m (l.take k)).S⟩ by rw [HS.out, step, if_pos hk1])
        rw [hk1] at r0
        have HC := Lib.hid (deliverq (wr.alloc (.cells #[.int .i64 1, .int .i64 o.a, .int .i64 o.b, .slice o.ad o.l.length o.c] 42)) w.heap.size (w.heap.size + 1) m (stOf m (l.take k)).qs (stOf m (l.take k)).S o.a (hk1 ▸ HL.out) (by rw [size_new]; exact hsz))
        clear hk1
        go_wp2_with fail
        refine HC.out.mono ?_; rintro e w4 ⟨v4, rfl, _, hl4, hb4⟩
        have HB4 := Lib.hid ((below_step hB.out (below_new1 wr _)).trans hb4)
        have HL4 := Lib.hid hl4
        clear hb4 hl4 HC
        go_wp2_with fail
        go_roundw
        case rel => exact ⟨k + 1, by omega, by go_num, by rw [HST.out]; exact HL4, HB4⟩
        case measure => simp [intOf]; omega
      · by_cases hk2 : o.kind = 2
        · have HST := Lib.hid (show stOf m (l.take (k + 1)) = ⟨takeQ (stOf m (l.take k)).qs o.a, (stOf m (l.take k)).S⟩ by rw [HS.out, step, if_neg hk1, if_pos hk2])
          rw [hk2] at r0
          have HC := Lib.hid (dropq (wr.alloc (.cells #[.int .i64 2, .int .i64 o.a, .int .i64 o.b, .slice o.ad o.l.length o.c] 42)) w.heap.size (w.heap.size + 1) m (stOf m (l.take k)).qs (stOf m (l.take k)).S o.a (hk2 ▸ HL.out) (by rw [size_new]; exact hsz))
          clear hk1 hk2
          go_wp2_with fail
          refine HC.out.mono ?_; rintro e w4 ⟨rfl, hl4, hb4⟩
          have HB4 := Lib.hid ((below_step hB.out (below_new1 wr _)).trans hb4)
          have HL4 := Lib.hid hl4
          clear hb4 hl4 HC
          go_wp2_with fail
          go_roundw
          case rel => exact ⟨k + 1, by omega, by go_num, by rw [HST.out]; exact HL4, HB4⟩
          case measure => simp [intOf]; omega
        · by_cases hk3 : o.kind = 3
          · have HST := Lib.hid (show stOf m (l.take (k + 1)) = ⟨dblQ (stOf m (l.take k)).qs o.a, (stOf m (l.take k)).S⟩ by rw [HS.out, step, if_neg hk1, if_neg hk2, if_pos hk3])
            rw [hk3] at r0
            have HC := Lib.hid (doubleq (wr.alloc (.cells #[.int .i64 3, .int .i64 o.a, .int .i64 o.b, .slice o.ad o.l.length o.c] 42)) w.heap.size (w.heap.size + 1) m (stOf m (l.take k)).qs (stOf m (l.take k)).S o.a (hk3 ▸ HL.out) HF.out (by rw [size_new]; exact hsz))
            clear hk1 hk2 hk3
            go_wp2_with fail
            refine HC.out.mono ?_; rintro e w4 ⟨rfl, hl4, hb4⟩
            have HB4 := Lib.hid ((below_step hB.out (below_new1 wr _)).trans hb4)
            have HL4 := Lib.hid hl4
            clear hb4 hl4 HC
            go_wp2_with fail
            go_roundw
            case rel => exact ⟨k + 1, by omega, by go_num, by rw [HST.out]; exact HL4, HB4⟩
            case measure => simp [intOf]; omega
          · by_cases hk4 : o.kind = 4
            · have HST := Lib.hid (show stOf m (l.take (k + 1)) = ⟨(stOf m (l.take k)).qs, cutS m (stOf m (l.take k)).S o.a o.b⟩ by rw [HS.out, step, if_neg hk1, if_neg hk2, if_neg hk3, if_pos hk4])
              rw [hk4] at r0
              have HC := Lib.hid (cutq (wr.alloc (.cells #[.int .i64 4, .int .i64 o.a, .int .i64 o.b, .slice o.ad o.l.length o.c] 42)) w.heap.size (w.heap.size + 1) m (stOf m (l.take k)).qs (stOf m (l.take k)).S o.a o.b (hk4 ▸ HL.out) (by rw [size_new]; exact hsz))
              clear hk1 hk2 hk3 hk4
              go_wp2_with fail
              refine HC.out.mono ?_; rintro e w4 ⟨rfl, hl4, hb4⟩
              have HB4 := Lib.hid ((below_step hB.out (below_new1 wr _)).trans hb4)
              have HL4 := Lib.hid hl4
              clear hb4 hl4 HC
              go_wp2_with fail
              go_roundw
              case rel => exact ⟨k + 1, by omega, by go_num, by rw [HST.out]; exact HL4, HB4⟩
              case measure => simp [intOf]; omega
            · by_cases hk5 : o.kind = 5
              · have HST := Lib.hid (show stOf m (l.take (k + 1)) = ⟨(stOf m (l.take k)).qs, []⟩ by rw [HS.out, step, if_neg hk1, if_neg hk2, if_neg hk3, if_neg hk4, if_pos hk5])
                rw [hk5] at r0
                have HC := Lib.hid (healq (wr.alloc (.cells #[.int .i64 5, .int .i64 o.a, .int .i64 o.b, .slice o.ad o.l.length o.c] 42)) w.heap.size (w.heap.size + 1) m (stOf m (l.take k)).qs (stOf m (l.take k)).S (hk5 ▸ HL.out) (by rw [size_new]; exact hsz))
                clear hk1 hk2 hk3 hk4 hk5
                go_wp2_with fail
                refine HC.out.mono ?_; rintro e w4 ⟨rfl, hl4, hb4⟩
                have HB4 := Lib.hid ((below_step hB.out (below_new1 wr _)).trans hb4)
                have HL4 := Lib.hid hl4
                clear hb4 hl4 HC
                go_wp2_with fail
                go_roundw
                case rel => exact ⟨k + 1, by omega, by go_num, by rw [HST.out]; exact HL4, HB4⟩
                case measure => simp [intOf]; omega
              · have HST := Lib.hid (show stOf m (l.take (k + 1)) = ⟨sendQ m (stOf m (l.take k)).qs (stOf m (l.take k)).S o.a o.b o.l, (stOf m (l.take k)).S⟩ by rw [HS.out, step, if_neg hk1, if_neg hk2, if_neg hk3, if_neg hk4, if_neg hk5])
                have e1 : (o.kind == 1) = false := by simpa using hk1
                have e2 : (o.kind == 2) = false := by simpa using hk2
                have e3 : (o.kind == 3) = false := by simpa using hk3
                have e4 : (o.kind == 4) = false := by simpa using hk4
                have e5 : (o.kind == 5) = false := by simpa using hk5
                have HC := Lib.hid (sendq (wr.alloc (.cells #[.int .i64 o.kind, .int .i64 o.a, .int .i64 o.b, .slice o.ad o.l.length o.c] 42)) w.heap.size (w.heap.size + 1) m (stOf m (l.take k)).qs (stOf m (l.take k)).S o.a o.b o.ad o.l o.c HL.out (by rw [size_new]; exact hsz) HO.out.nil HO.out.lie)
                go_wp2_with fail
                refine HC.out.mono ?_; rintro e w4 ⟨rfl, hl4, hb4⟩
                have HB4 := Lib.hid (HB.out.trans hb4)
                have HL4 := Lib.hid hl4
                clear hb4 hl4 HC
                go_wp2_with fail
                go_roundw
                case rel => exact ⟨k + 1, by omega, by go_num, by rw [HST.out]; exact HL4, HB4⟩
                case measure => simp [intOf]; omega
    · obtain rfl : k = l.length := by omega
      rw [List.take_length] at hL
      go_wp2_with fail
      go_ret
      exact ⟨rfl, hL.out, hB.out⟩
end Go.Proofs.Ytnnfagdhigodbaa.netr
