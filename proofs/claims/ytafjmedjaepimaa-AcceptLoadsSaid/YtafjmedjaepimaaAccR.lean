/-
  Scripts: what came in; ran.
-/
import Derived.Test.YtafjmedjaepimaaAccJ
namespace Go.Proofs.Ytafjmedjaepimaa.accr
open Go.ChangeShapes Go.WideShapes Go.ChangeAt Go.RowKit Go.Joins
open Go.Proofs.Ytafjmedjaepimaa.kit Go.Proofs.Ytafjmedjaepimaa.mapkit Go.Proofs.Ytafjmedjaepimaa.byt Go.Proofs.Ytafjmedjaepimaa.own Go.Proofs.Ytafjmedjaepimaa.accd Go.Proofs.Ytafjmedjaepimaa.acca Go.Proofs.Ytafjmedjaepimaa.accb Go.Proofs.Ytafjmedjaepimaa.acck Go.Proofs.Ytafjmedjaepimaa.acce Go.Proofs.Ytafjmedjaepimaa.accf Go.Proofs.Ytafjmedjaepimaa.accg Go.Proofs.Ytafjmedjaepimaa.acch Go.Proofs.Ytafjmedjaepimaa.acci Go.Proofs.Ytafjmedjaepimaa.accj
set_option linter.unusedVariables false
set_option linter.unusedSimpArgs false
set_option maxHeartbeats 1000000
set_option maxRecDepth 100000

structure OpV where
  kind : Int
  s : Int
  r : Int
  n : Int
  ad : Option Addr
  c : Nat
  l : List Nat
def ocells (o : OpV) : List Value := [.int .i64 o.kind, .int .i64 o.s, .int .i64 o.r, .int .i64 o.n, .slice o.ad o.l.length o.c]
def OpV.vt (o : OpV) : Vt := ⟨o.s, o.r, o.n, o.l, o.ad, o.c⟩
structure GoodO (w : World) (o : OpV) : Prop where
  lie : Lie w o.ad (bcells o.l)
  byt : Byt o.l
  nil : o.ad = none → o.l.length = 0 ∧ o.c = 0
  cap : o.l.length ≤ o.c
  len : o.c ≤ maxLen
  slot : -9223372036854775808 ≤ o.s ∧ o.s ≤ 9223372036854775807
theorem GoodO.below {w w' : World} {o : OpV} (h : GoodO w o) (hb : Below w.heap.size w w') : GoodO w' o := ⟨h.lie.below hb, h.byt, h.nil, h.cap, h.len, h.slot⟩
theorem GoodO.rd {w : World} {o : OpV} (h : GoodO w o) : Rd2 w o.vt := ⟨h.lie, h.nil, by have h1 := h.cap; have h2 := h.len; unfold maxLen at h2; show o.l.length ≤ _; omega⟩

section
variable {H : Type} {enc : TypeId × Value → H} {P : Program}
theorem elem_ints {W : World} {t e : TypeId} {k : IntKind} {v : Value} {n : Nat} {y : DataW H × List MemPlace}
    (hs : P.underlying t = some (.slice e)) (he : P.underlying e = some (.int k)) (hC : P.cellsOf e = 1)
    (hf : DataW.trod enc P W 0 (fun _ => true) true n t [v] = some y) :
    ∃ (a : Option Addr) (l : List Int) (cap : Nat), v = .slice a l.length cap ∧ l.length ≤ cap ∧ cap ≤ maxLen ∧ (a = none → l.length = 0 ∧ cap = 0) ∧ Lie W a (l.map (Value.int k)) ∧ (∀ n ∈ l, (Lit.int k n).wf = true) := by
  rcases open_ints hs he hC hf with ⟨hcs, hx⟩ | ⟨a, len', cap', zs, hcs, _, hl, hm, hz, hx, hcell, hwz⟩
  · simp at hcs
    subst hcs
    exact ⟨none, [], 0, rfl, Nat.le_refl _, by simp [maxLen], by simp, .inl rfl, by simp⟩
  · simp at hcs
    subst hcs
    simp only [if_true] at hz
    have hlen : (zs.take len').length = len' := by simp; omega
    refine ⟨some a, zs.take len', cap', by rw [hlen], by omega, hm, by simp, ?_, fun n hn => hwz n (List.mem_of_mem_take hn)⟩
    by_cases h0 : len' = 0
    · left; simp [h0]
    · right
      obtain ⟨b, off, rfl, hc⟩ := ints_at hcell (by omega)
      refine ⟨b, off, rfl, cell_lt (hc 0 (by omega)), fun i hi => ?_⟩
      simp only [List.length_map, hlen] at hi
      rw [hc i (by omega)]
      simp [List.getElem?_take, hi]
      rw [List.getElem?_eq_getElem (by omega)]
      simp
end
theorem byte_wf {l : List Int} (h : ∀ n ∈ l, (Lit.int .u8 n).wf = true) : ∀ x ∈ l, 0 ≤ x ∧ x < 256 := by
  intro x hx
  have := h x hx
  simp [Lit.wf, IntKind.min, IntKind.max, IntKind.signed, IntKind.bits] at this
  omega
theorem int_wf {s : Int} (h : (Lit.int .i64 s).wf = true) : -9223372036854775808 ≤ s ∧ s ≤ 9223372036854775807 := by
  simp [Lit.wf, IntKind.min, IntKind.max, IntKind.signed, IntKind.bits] at h
  omega
theorem nat_list (l : List Int) (h : ∀ x ∈ l, 0 ≤ x ∧ x < 256) : ∃ m : List Nat, l = m.map (fun x : Nat => (x : Int)) ∧ byt.Byt m := by
  induction l with
  | nil => exact ⟨[], rfl, by intro x hx; simp at hx⟩
  | cons x l ih =>
    obtain ⟨m, rfl, hm⟩ := ih fun y hy => h y (List.mem_cons_of_mem _ hy)
    have hx := h x (List.mem_cons_self ..)
    refine ⟨x.toNat :: m, by simp; omega, fun y hy => ?_⟩
    rcases List.mem_cons.1 hy with rfl | hy
    · omega
    · exact hm y hy
theorem bcells_of (m : List Nat) : (m.map (fun x : Nat => (x : Int))).map (Value.int .u8) = byt.bcells m := by simp [byt.bcells]
theorem list5 {α : Type} {l : List α} (h : l.length = 5) : ∃ a b c d e, l = [a, b, c, d, e] := by
  match l, h with | [a, b, c, d, e], _ => exact ⟨a, b, c, d, e, rfl⟩
theorem list4' {α : Type} {l : List α} (h : l.length = 4) : ∃ a b c d, l = [a, b, c, d] := by
  match l, h with | [a, b, c, d], _ => exact ⟨a, b, c, d, rfl⟩
theorem list2 {α : Type} {l : List α} (h : l.length = 2) : ∃ a b, l = [a, b] := by
  match l, h with | [a, b], _ => exact ⟨a, b, rfl⟩

/-- What the datum of a call says of its bytes' length. -/
def DataO {H : Type} (o : OpV) (d : DataW H) : Prop :=
  ∃ d0 d1 d2 d3, d = .agg [d0, d1, d2, d3] ∧ (o.l = [] ∨ ∃ es sp, d3 = .slice es sp ∧ es.length = o.l.length)
section
variable {H : Type} {enc : TypeId × Value → H} {P : Program}
theorem elem_intsD {W : World} {t e : TypeId} {k : IntKind} {v : Value} {n : Nat} {y : DataW H × List MemPlace}
    (hs : P.underlying t = some (.slice e)) (he : P.underlying e = some (.int k)) (hC : P.cellsOf e = 1)
    (hf : DataW.trod enc P W 0 (fun _ => true) true n t [v] = some y) {a : Option Addr} {m cap : Nat} (hv : v = .slice a m cap) : m = 0 ∨ ∃ es sp, y.1 = .slice es sp ∧ es.length = m := by
  rcases open_ints hs he hC hf with ⟨hcs, hx⟩ | ⟨a, len', cap', zs, hcs, _, hl, hm, hz, hx, hcell, hwz⟩
  · simp at hcs
    rw [hcs] at hv
    simp only [Value.slice.injEq] at hv
    exact .inl hv.2.1.symm
  · simp at hcs
    rw [hcs] at hv
    simp only [Value.slice.injEq] at hv
    simp only [if_true] at hz
    subst hx
    refine .inr ⟨_, _, rfl, ?_⟩
    simp [lits]
    omega
end
/-- A ballot's two cells. -/
theorem ballot_cells {H : Type} {enc : TypeId × Value → H} {W : World} {n : Nat} {u v : Value} {y : DataW H × List MemPlace} (h : DataW.trod enc Try.prog W 0 (fun _ => true) true n 28 [u, v] = some y) : ∃ r m : Int, u = .int .i64 r ∧ v = .int .i64 m := by
  obtain ⟨ys, n', hy, hyl, hcl, hf⟩ := struct_cells Try.underlying28 (by kernel_rfl) (by kernel_rfl) h
  obtain ⟨v0, z0, e0, g0, t0⟩ := hf 0 _ rfl
  obtain ⟨v1, z1, e1, g1, t1⟩ := hf 1 _ rfl
  obtain ⟨a, ea, _, wa⟩ := DataW.trod_int Try.underlying3 t0
  obtain ⟨b, eb, _, wb⟩ := DataW.trod_int Try.underlying3 t1
  simp at e0 e1 ea eb
  subst e0 e1 ea eb
  exact ⟨a, b, rfl, rfl⟩
theorem elem_op {H : Type} {enc : TypeId × Value → H} {W : World} (n : Nat) (cs : List Value) (y : DataW H × List MemPlace) (h : DataW.trod enc Try.prog W 0 (fun _ => true) true n 31 cs = some y) :
    ∃ o : OpV, cs = ocells o ∧ (GoodO W o ∧ DataO o y.1) := by
  obtain ⟨ys, n', hn', hy, hlen, hyl, hf⟩ := DataW.trod_struct Try.underlying31 h
  rw [show Try.prog.cellsOf 31 = 5 by kernel_rfl] at hlen
  obtain ⟨c0, c1, c2, c3, c4, rfl⟩ := list5 hlen
  obtain ⟨y0, y1, y2, y3, rfl⟩ := list4' (hyl.trans (by kernel_rfl))
  have t0 := hf 0 _ rfl
  have t1 := hf 1 _ rfl
  have t2 := hf 2 _ rfl
  have t3 := hf 3 _ rfl
  have k1 : Try.prog.cellsOf 3 = 1 := by kernel_rfl
  have k2 : Try.prog.cellsOf 28 = 2 := by kernel_rfl
  have k3 : Try.prog.cellsOf 29 = 1 := by kernel_rfl
  change DataW.trod enc Try.prog W 0 (fun _ => true) true n' 3 (List.take (Try.prog.cellsOf 3) (List.drop 0 [c0, c1, c2, c3, c4])) = some y0 at t0
  change DataW.trod enc Try.prog W 0 (fun _ => true) true n' 3 (List.take (Try.prog.cellsOf 3) (List.drop 1 [c0, c1, c2, c3, c4])) = some y1 at t1
  change DataW.trod enc Try.prog W 0 (fun _ => true) true n' 28 (List.take (Try.prog.cellsOf 28) (List.drop 2 [c0, c1, c2, c3, c4])) = some y2 at t2
  change DataW.trod enc Try.prog W 0 (fun _ => true) true n' 29 (List.take (Try.prog.cellsOf 29) (List.drop 4 [c0, c1, c2, c3, c4])) = some y3 at t3
  rw [k1] at t0 t1
  rw [k2] at t2
  rw [k3] at t3
  change DataW.trod enc Try.prog W 0 (fun _ => true) true n' 3 [c0] = some y0 at t0
  change DataW.trod enc Try.prog W 0 (fun _ => true) true n' 3 [c1] = some y1 at t1
  change DataW.trod enc Try.prog W 0 (fun _ => true) true n' 28 [c2, c3] = some y2 at t2
  change DataW.trod enc Try.prog W 0 (fun _ => true) true n' 29 [c4] = some y3 at t3
  obtain ⟨a, ea, _, wa⟩ := DataW.trod_int Try.underlying3 t0
  obtain ⟨b, eb, _, wb⟩ := DataW.trod_int Try.underlying3 t1
  obtain ⟨r, m, er, em⟩ := ballot_cells t2
  obtain ⟨ad, l, cap, ed, hlc, hcm, hnil, hlie, hwf⟩ := elem_ints Try.underlying29 Try.underlying5 (by kernel_rfl) t3
  have hD := elem_intsD Try.underlying29 Try.underlying5 (by kernel_rfl) t3 ed
  obtain ⟨q, rfl, hq⟩ := nat_list l (byte_wf hwf)
  rw [bcells_of] at hlie
  simp only [List.length_map] at *
  simp at ea eb
  subst ea eb er em ed
  refine ⟨⟨a, b, r, m, ad, cap, q⟩, rfl, ⟨hlie, hq, hnil, hlc, hcm, int_wf wb⟩, ?_⟩
  refine ⟨_, _, _, _, by rw [hy]; rfl, ?_⟩
  rcases hD with h0 | ⟨es, sp, h1, h2⟩
  · exact .inl (List.length_eq_zero_iff.1 h0)
  · exact .inr ⟨es, sp, h1, h2⟩
theorem row_op {w : World} {a : Option Addr} {l : List OpV} (h : RowsAt w a 5 (l.map ocells)) (k : Nat) (hk : k < l.length) :
    ∃ g off, a = some ⟨g, off, none⟩ ∧ g < w.heap.size ∧ w.cell? ⟨g, off + k * 5, none⟩ = some (.int .i64 l[k].kind) ∧ w.cell? ⟨g, off + k * 5 + 1, none⟩ = some (.int .i64 l[k].s) ∧ w.cell? ⟨g, off + k * 5 + 2, none⟩ = some (.int .i64 l[k].r) ∧ w.cell? ⟨g, off + k * 5 + 3, none⟩ = some (.int .i64 l[k].n) ∧ w.cell? ⟨g, off + k * 5 + 4, none⟩ = some (.slice l[k].ad l[k].l.length l[k].c) := by
  rcases h with h | ⟨b, off, rfl, hz, h3⟩
  · have : l = [] := by simpa using h
    subst this; simp at hk
  · have hi : k < (l.map ocells).length := by simpa using hk
    have e0 := h3 k hi 0 (by omega)
    have e1 := h3 k hi 1 (by omega)
    have e2 := h3 k hi 2 (by omega)
    have e3 := h3 k hi 3 (by omega)
    have e4 := h3 k hi 4 (by omega)
    simp only [List.getElem_map, Nat.add_zero] at e0 e1 e2 e3 e4
    exact ⟨b, off, rfl, hz, e0.trans rfl, e1.trans rfl, e2.trans rfl, e3.trans rfl, e4.trans rfl⟩
/-- What a call does to an acceptor. -/
def opS (A : AS) (o : OpV) : AS := if o.kind = 1 then prepS A o.r o.n else if o.kind = 2 then forgetS A o.s else accS A (lv o.vt)
def stOf (A : AS) (l : List OpV) : AS := l.foldl opS A
theorem stOf_snoc (A : AS) (l : List OpV) (k : Nat) (hk : k < l.length) : stOf A (l.take (k + 1)) = opS (stOf A (l.take k)) l[k] := by
  rw [List.take_succ_eq_append_getElem hk, stOf, List.foldl_append]; rfl
theorem vote_ok (w : World) (o : OpV) : Calls Try.prog 15 #[.agg #[.int .i64 o.kind, .int .i64 o.s, .int .i64 o.r, .int .i64 o.n, .slice o.ad o.l.length o.c]] w fun e w' => e = .returned o.vt.val ∧ Below w.heap.size w w' := vote_any w o.kind o.s o.r o.n o.ad o.l.length o.c
/-- One call on the acceptor alone: the three ways of a round. -/
theorem opS_1 (A : AS) (o : OpV) (h : o.kind = 1) : opS A o = prepS A o.r o.n := if_pos h
theorem opS_2 (A : AS) (o : OpV) (h : o.kind = 2) : opS A o = forgetS A o.s := by rw [opS, if_neg (by omega), if_pos h]
theorem opS_3 (A : AS) (o : OpV) (h : o.kind ≠ 1) (h2 : o.kind ≠ 2) : opS A o = accS A (lv o.vt) := by rw [opS, if_neg h, if_neg h2]

theorem ran_ok (w : World) (a : Option Addr) (l : List OpV) (cap : Nat) (hl : l.length ≤ 9223372036854775807) (hat : RowsAt w a 5 (l.map ocells)) (hok : ∀ k (hk : k < l.length), GoodO w (l[k])) :
    Calls Try.prog 23 #[.slice a l.length cap] w fun e w' => e = .returned (.pointer (some ⟨w.heap.size + 1, 0, none⟩)) ∧
      AccIs w' w.heap.size (w.heap.size + 1) w.heap.size (stOf startS l) ∧ Below w.heap.size w w' := by
  have hN := Lib.hid (newA_ok w)
  have HR := Lib.hid (fun (wr : World) (hb : Below w.heap.size w wr) k hk => row_op (hat.below hb) k hk)
  have HOK := Lib.hid (fun (wr : World) (hb : Below w.heap.size w wr) k hk => (hok k hk).below hb)
  clear hat hok
  go_enter Try.func23, Try.ntmps23
  go_wp2_with fail
  refine hN.out.mono ?_; rintro e w1 ⟨rfl, hL1, hb1⟩
  have HL1 := Lib.hid hL1
  have HB1 := Lib.hid hb1
  clear hL1 hb1 hN
  go_wp2_with fail
  go_loopw [4] (fun i wr => ∃ k : Nat, k ≤ l.length ∧ i = .int .i64 k ∧ Hid (AccIs wr w.heap.size (w.heap.size + 1) w.heap.size (stOf startS (l.take k))) ∧ Hid (Below w.heap.size w wr)) (fun i _ => l.length - (intOf i).toNat)
  case atStart => exact ⟨0, Nat.zero_le _, rfl, HL1, HB1⟩
  case round =>
    obtain ⟨k, hk, rfl, hL, hB⟩ := hrel
    by_cases hlt : k < l.length
    · obtain ⟨g, off, rfl, hgz, r0, r1, r2, r3, r4⟩ := HR.out wr hB.out k hlt
      have HS := Lib.hid (stOf_snoc startS l k hlt)
      have HG := Lib.hid (HOK.out wr hB.out k hlt)
      obtain ⟨o, ho⟩ : ∃ o, o = l[k] := ⟨_, rfl⟩
      rw [← ho] at r0 r1 r2 r3 r4 HS HG
      obtain ⟨A, hA⟩ : ∃ A, A = stOf startS (l.take k) := ⟨_, rfl⟩
      rw [← hA] at hL HS
      clear ho hA
      have hsz := hB.out.size
      by_cases hk1 : o.kind = 1
      · have HST := Lib.hid (HS.out.trans (opS_1 A o hk1))
        rw [hk1] at r0
        have HC := Lib.hid (prepare_ok wr.drew w.heap.size (w.heap.size + 1) w.heap.size A o.r o.n o.s (hL.out.below (below_drewN (Below.refl _ wr) 1)))
        clear hk1
        go_wp2_with fail
        go_still_tail 11, (by kernel_rfl)
        change wpList _ _ _ _ _ wr.drew
        go_wp2_with fail
        refine HC.out.mono ?_; rintro e w4 ⟨v4, rfl, _, hl4, hk4⟩
        have HB4 := Lib.hid ((below_step hB.out (below_drewN (Below.refl _ wr) 1)).trans (keep_below hk4 hsz (by omega) (Nat.le_refl _)))
        have HL4 := Lib.hid hl4
        clear hk4 hl4 HC
        go_wp2_with fail
        go_roundw
        case rel => exact ⟨k + 1, by omega, by go_num, by rw [HST.out]; exact HL4, HB4⟩
        case measure => simp [intOf]; omega
      · by_cases hk2 : o.kind = 2
        · have HST := Lib.hid (HS.out.trans (opS_2 A o hk2))
          rw [hk2] at r0
          have HC := Lib.hid (forget_ok wr w.heap.size (w.heap.size + 1) w.heap.size A o.s hL.out)
          clear hk1 hk2
          go_wp2_with fail
          refine HC.out.mono ?_; rintro e w4 ⟨rfl, hl4, hk4⟩
          have HB4 := Lib.hid (hB.out.trans (keep_below hk4 hsz (by omega) (Nat.le_refl _)))
          have HL4 := Lib.hid hl4
          clear hk4 hl4 HC
          go_wp2_with fail
          go_roundw
          case rel => exact ⟨k + 1, by omega, by go_num, by rw [HST.out]; exact HL4, HB4⟩
          case measure => simp [intOf]; omega
        · have HST := Lib.hid (HS.out.trans (opS_3 A o hk1 hk2))
          have e1 : (o.kind == 1) = false := by simpa using hk1
          have e2 : (o.kind == 2) = false := by simpa using hk2
          have HV := Lib.hid (vote_ok wr o)
          have HAC := Lib.hid (fun w2 (hb : Below wr.heap.size wr w2) => accept_ok w2 w.heap.size (w.heap.size + 1) w.heap.size A o.vt (hL.out.below hb) (Nat.le_trans hsz hb.size) (HG.out.below hb).rd HG.out.slot.1 HG.out.slot.2)
          go_wp2_with fail
          refine HV.out.mono ?_; rintro e w3 ⟨rfl, hb3⟩
          have HC := Lib.hid (HAC.out w3 hb3)
          have HB3 := Lib.hid (below_step hB.out hb3)
          have hsz3 := HB3.out.size
          simp only [Vt.val] at HC ⊢
          clear hb3 HAC HV
          go_wp2_with fail
          refine HC.out.mono ?_; rintro e w4 ⟨rfl, hl4, hk4⟩
          have HB4 := Lib.hid (HB3.out.trans (keep_below hk4 hsz3 (by omega) (Nat.le_refl _)))
          have HL4 := Lib.hid hl4
          clear hk4 hl4 HC
          go_wp2_with fail
          go_roundw
          case rel => exact ⟨k + 1, by omega, by go_num, by rw [HST.out]; exact HL4, HB4⟩
          case measure => simp [intOf]; omega
    · obtain rfl : k = l.length := by omega
      rw [List.take_length] at hL
      go_wp2_with fail
      go_ret
      exact ⟨rfl, hL.out, hB.out⟩
end Go.Proofs.Ytafjmedjaepimaa.accr
