/-
  NetPlays: whatever is sent, delivered, dropped, doubled, cut and healed: each answer, and what is under way behind it, is the document's.
-/
import Derived.Test.YtnnfagdhigodbaaNetZ
import Derived.Test.YtnnfagdhigodbaaChecked
import Derived.Test.YtnnfagdhigodbaaRows
namespace Go.Proofs.Ytnnfagdhigodbaa.netPlays
open Go.ChangeShapes Go.WideShapes Go.ChangeAt Go.RowKit Go.Joins
open Go.Proofs.Ytnnfagdhigodbaa.kit Go.Proofs.Ytnnfagdhigodbaa.byt Go.Proofs.Ytnnfagdhigodbaa.netc Go.Proofs.Ytnnfagdhigodbaa.netg Go.Proofs.Ytnnfagdhigodbaa.nets Go.Proofs.Ytnnfagdhigodbaa.nett Go.Proofs.Ytnnfagdhigodbaa.nete Go.Proofs.Ytnnfagdhigodbaa.netq Go.Proofs.Ytnnfagdhigodbaa.netr Go.Proofs.Ytnnfagdhigodbaa.netk Go.Proofs.Ytnnfagdhigodbaa.netj Go.Proofs.Ytnnfagdhigodbaa.neth Go.Proofs.Ytnnfagdhigodbaa.neto Go.Proofs.Ytnnfagdhigodbaa.netx Go.Proofs.Ytnnfagdhigodbaa.nety Go.Proofs.Ytnnfagdhigodbaa.netz
set_option linter.unusedVariables false
set_option linter.unusedSimpArgs false
set_option maxHeartbeats 4000000
set_option maxRecDepth 100000

theorem new_bad (w : World) (n : Int) (h : ¬ (1 ≤ n ∧ n ≤ 5)) : Calls Try.prog 17 #[.int .i64 n] w fun e w' => e = .returned (.tuple #[.pointer none, .int .i64 1]) ∧ w = w' := by
  by_cases h1 : n < 1
  · have t1 : decide (n < 1) = true := decide_eq_true h1
    clear h
    go_enter Try.func17, Try.ntmps17
    go_wp2_with fail
    exact bodyPost_ret (v := .tuple #[.pointer none, .int .i64 1]) (by simp [results, Try.results17, go_sem]) rfl ⟨rfl, rfl⟩
  · have t1 : decide (n < 1) = false := decide_eq_false h1
    have t2 : decide (5 < n) = true := decide_eq_true (by omega)
    have t3 : 5 < n := by omega
    clear h
    go_enter Try.func17, Try.ntmps17
    go_wp2_with fail
    exact bodyPost_ret (v := .tuple #[.pointer none, .int .i64 1]) (by simp [results, Try.results17, go_sem]) rfl ⟨rfl, rfl⟩

theorem step_any (w wr : World) (bn br : Nat) (m : Int) (qs : List Q) (S Cs : Cuts) (o : OpV) (n : Nat) (T : Two w wr bn br m qs S Cs) (hF : Fit qs) (hag : Agree S Cs) (hcl : Cs.length ≤ n) (hn : n ≤ 3518437208884) (hG : GoodO w o) (hol : o.l.length ≤ 140737488351232) :
    Calls Try.prog 19 #[.pointer (some ⟨bn, 0, none⟩), .pointer (some ⟨br, 0, none⟩), .agg #[.int .i64 o.kind, .int .i64 o.a, .int .i64 o.b, .slice o.ad o.l.length o.c]] wr fun e w' => e = .returned (.bool true) ∧ Went w w' bn br m (netr.step m ⟨qs, S⟩ o) (n + 1) := by
  by_cases h1 : o.kind = 1
  · exact step1 w wr bn br m qs S Cs o n T hF hag hcl hn h1
  by_cases h2 : o.kind = 2
  · exact step2 w wr bn br m qs S Cs o n T hF hag hcl hn h2
  by_cases h3 : o.kind = 3
  · exact step3 w wr bn br m qs S Cs o n T hF hag hcl hn h3
  by_cases h4 : o.kind = 4
  · exact step4 w wr bn br m qs S Cs o n T hF hag hcl hn h4
  by_cases h5 : o.kind = 5
  · exact step5 w wr bn br m qs S Cs o n T hF hag hcl hn h5
  exact step6 w wr bn br m qs S Cs o n T hF hag hcl h1 h2 h3 h4 h5 hG hol

/-- The document's list, as it lies. -/
theorem ref_row {w wr : World} {bn br : Nat} {m : Int} {qs : List Q} {S Cs : Cuts} (T : Two w wr bn br m qs S Cs) : ∃ v rs, wr.cell? ⟨br, 1, none⟩ = some v ∧ br < wr.heap.size ∧ RowP wr v rs ∧ rs.map q = qs := by
  obtain ⟨rs, ⟨g1, ⟨a, c, a2, c2, g2, g3, g4⟩, g6⟩, hq⟩ := T.ref
  exact ⟨_, rs, (blk3 g2).2.1, (blk3 g2).2.2.2.2.2.2, ⟨⟨_, a, c, rfl, g3⟩, fun p hp => body_rd (g6 p hp)⟩, hq⟩
theorem told_rowp {w w' : World} {v : Value} {qs : List Q} (h : neto.Told w w' v qs) : ∃ xs, RowP w' v xs ∧ xs.map q = qs := by
  obtain ⟨a, c, xs, rfl, hq, hown, hbd⟩ := h.ps
  exact ⟨xs, ⟨⟨_, a, c, rfl, hown⟩, fun p hp => body_rd (hbd p hp)⟩, hq⟩

theorem plays_bad (w : World) (n0 : Int) (sv : Value) (hb : ¬ (1 ≤ n0 ∧ n0 ≤ 5)) :
    Calls Try.prog 5 #[.int .i64 n0, sv] w fun e w' => e = .returned (.bool true) ∧ Below w.heap.size w w' := by
  have HN := Lib.hid (new_bad w n0 hb)
  have HR := Lib.hid (rnew_bad w n0 hb)
  clear hb
  go_enter Try.func5, Try.ntmps5
  go_wp2_with fail
  refine HN.out.mono ?_; rintro e w1 ⟨rfl, rfl⟩
  go_wp2_with fail
  refine HR.out.mono ?_; rintro e w1 ⟨rfl, rfl⟩
  go_wp2_with fail
  refine (awake_ok w).mono ?_; rintro e w2 ⟨rfl, hb2⟩
  go_wp2_with fail
  go_ret
  exact ⟨rfl, hb2⟩

theorem plays_ok (w : World) (n0 : Int) (a : Option Addr) (l : List OpV) (cap : Nat) (hm1 : 1 ≤ n0) (hm2 : n0 ≤ 5) (hl : l.length ≤ 3518437208884) (hat : RowsAt w a 4 (l.map ocells)) (hok : ∀ k (hk : k < l.length), GoodO w (l[k])) (hol : ∀ k (hk : k < l.length), (l[k]).l.length ≤ 140737488351232) :
    Calls Try.prog 5 #[.int .i64 n0, .slice a l.length cap] w fun e w' => e = .returned (.bool true) ∧ Below w.heap.size w w' := by
  have hN := Lib.hid (newq w n0 hm1 hm2)
  have HRN := Lib.hid (fun W => rnew_ok W n0 hm1 hm2)
  have HR := Lib.hid (fun (wr : World) (hb : Below w.heap.size w wr) k hk => row_op (hat.below hb) k hk)
  have HOK := Lib.hid hok
  have HOL := Lib.hid hol
  clear hat hok hol hm1 hm2
  go_enter Try.func5, Try.ntmps5
  go_wp2_with fail
  refine hN.out.mono ?_; rintro e w1 ⟨rfl, hL1, hb1⟩
  have HL1 := Lib.hid hL1
  have HB1 := Lib.hid hb1
  clear hL1 hb1 hN
  go_wp2_with fail
  refine (HRN.out w1).mono ?_; rintro e w2 ⟨rfl, hr2, hb2⟩
  have HT2 : Hid (Two w w2 (w.heap.size + 1) w1.heap.size n0 [] [] []) := by
    have hlt := is_lt HL1.out
    obtain ⟨g1, ⟨a1, c1, a2, c2, g2, g3, g4⟩, g6⟩ := hr2
    have hs1 := HB1.out.size
    refine ⟨HL1.out.below hb2, ⟨[], ⟨by omega, ⟨a1, c1, a2, c2, g2, own_mono g3 hs1, own_mono g4 hs1⟩, by simp⟩, rfl⟩, fun k h1 h2 => ?_, below_step HB1.out hb2⟩
    have hk := (net_lt HL1.out ((foot_same (hb2.block _ hlt) k).1 h1)).1
    rcases (foot_two g2 k).1 h2 with h | h | h
    · omega
    · have := (own_from g3 k h).1; omega
    · have := (own_from g4 k h).1; omega
  clear hr2 hb2 HRN HL1 HB1
  go_wp2_with fail
  refine (awake_ok w2).mono ?_; rintro e w3 ⟨rfl, hb3⟩
  have HT3 := Lib.hid (HT2.out.old hb3)
  clear hb3 HT2
  go_wp2_with fail
  obtain ⟨br, hbr⟩ : ∃ br, br = w1.heap.size := ⟨_, rfl⟩
  rw [← hbr] at HT3 ⊢
  clear hbr
  go_loopw [8] (fun i wr => ∃ (k : Nat) (Cs : Cuts), k ≤ l.length ∧ i = .int .i64 k ∧ Hid (Two w wr (w.heap.size + 1) br n0 (stOf n0 (l.take k)).qs (stOf n0 (l.take k)).S Cs) ∧ Hid (Agree (stOf n0 (l.take k)).S Cs) ∧ Hid (Cs.length ≤ k)) (fun i _ => l.length - (intOf i).toNat)
  case atStart => exact ⟨0, [], Nat.zero_le _, rfl, HT3, agree_nil, (Nat.le_refl 0 : ([] : Cuts).length ≤ 0)⟩
  case round =>
    obtain ⟨k, Cs, hk, rfl, hT, hA, hC⟩ := hrel
    by_cases hlt : k < l.length
    · obtain ⟨g, off, rfl, hgz, r0, r1, r2, r3⟩ := HR.out wr hT.out.below k hlt
      have HS := Lib.hid (stOf_snoc n0 l k hlt)
      have HF := Lib.hid (stOf_fit n0 (l.take k))
      have HF' := Lib.hid (stOf_fit n0 (l.take (k + 1)))
      have hGO := HOK.out k hlt
      have hLO := HOL.out k hlt
      obtain ⟨o, ho⟩ : ∃ o, o = l[k] := ⟨_, rfl⟩
      rw [← ho] at r0 r1 r2 r3 HS hGO hLO
      obtain ⟨qs, hqs⟩ : ∃ qs, qs = (stOf n0 (l.take k)).qs := ⟨_, rfl⟩
      obtain ⟨S, hSS⟩ : ∃ S, S = (stOf n0 (l.take k)).S := ⟨_, rfl⟩
      rw [← hqs, ← hSS] at hT
      rw [← hSS] at hA
      rw [← hqs] at HF
      have hst : stOf n0 (l.take (k + 1)) = netr.step n0 ⟨qs, S⟩ o := by rw [HS.out, hqs, hSS]
      have HST := Lib.hid hst
      have HP := Lib.hid (step_any w wr _ br n0 qs S Cs o k hT.out HF.out hA.out hC.out (by omega) hGO hLO)
      clear ho hqs hSS hst hGO hLO
      go_wp2_with fail
      refine HP.out.mono ?_; rintro e w4 ⟨rfl, Cs', hT4, hA4, hC4⟩
      rw [← HST.out] at hT4 hA4
      have HT4 := Lib.hid hT4
      have HA4 := Lib.hid hA4
      have HC4 := Lib.hid hC4
      have HLI := Lib.hid (list_ok w4 _ _ _ _ _ hT4.net HF'.out)
      clear hT4 hA4 hC4 HP r0 r1 r2 r3
      go_wp2_with fail
      refine HLI.out.mono ?_; rintro e w5 ⟨v5, rfl, ht5, hb5⟩
      have hT5 := HT4.out.old hb5
      obtain ⟨rv, rs, hrv, hrz, hrr, hrq⟩ := ref_row hT5
      obtain ⟨xs, hxr, hxq⟩ := told_rowp ht5
      have HSM := Lib.hid (same_any w5 v5 rv xs rs hxr hrr (hxq.trans hrq.symm))
      have HT5 := Lib.hid hT5
      clear hT5 hrr hrq hxr hxq ht5 hb5 HLI
      go_wp2_with fail
      refine HSM.out.mono ?_; rintro e w6 ⟨rfl, hb6⟩
      have HT6 := Lib.hid (HT5.out.old hb6)
      clear hb6 HSM
      go_wp2_with fail
      go_roundw
      case rel => exact ⟨k + 1, Cs', by omega, by go_num, HT6, HA4, HC4⟩
      case measure => simp [intOf]; omega
    · obtain rfl : k = l.length := by omega
      go_wp2_with fail
      go_ret
      exact ⟨rfl, hT.out.below⟩

/-- What the datum of a call says of its bytes' length. -/
def DataO {H : Type} (o : OpV) (d : DataW H) : Prop :=
  ∃ d0 d1 d2 d3, d = .agg [d0, d1, d2, d3] ∧ (o.l = [] ∨ ∃ es sp, d3 = .slice es sp ∧ es.length = o.l.length)
section
variable {H : Type} {enc : TypeId × Value → H} {P : Program}
theorem elem_intsD {W : World} {t e : TypeId} {k : IntKind} {v : Value} {n : Nat} {y : DataW H × List MemPlace}
    (hs : P.underlying t = some (.slice e)) (he : P.underlying e = some (.int k)) (hC : P.cellsOf e = 1)
    (hf : DataW.trod enc P W 0 (fun _ => true) true n t [v] = some y) {a : Option Addr} {m cap : Nat} (hv : v = .slice a m cap) : m = 0 ∨ ∃ es sp, y.1 = .slice es sp ∧ es.length = m := by
  rcases open_ints hs he hC hf with ⟨hcs, hx⟩ | ⟨a', len', cap', zs, hcs, _, hl, hm, hz, hx, hcell, hwz⟩
  · simp at hcs
    rw [hcs] at hv
    simp only [Value.slice.injEq] at hv
    exact .inl hv.2.1.symm
  · simp at hcs
    rw [hcs] at hv
    simp only [Value.slice.injEq] at hv
    simp only [if_true] at hz
    subst hx
    refine .inr ⟨_, _, rfl, ?_⟩
    simp [lits]
    omega
end
theorem elem_op2 {H : Type} {enc : TypeId × Value → H} {W : World} (n : Nat) (cs : List Value) (y : DataW H × List MemPlace) (h : DataW.trod enc Try.prog W 0 (fun _ => true) true n 42 cs = some y) :
    ∃ o : OpV, cs = ocells o ∧ (GoodO W o ∧ DataO o y.1) := by
  obtain ⟨o, e, hg⟩ := elem_op n cs y h
  refine ⟨o, e, hg, ?_⟩
  obtain ⟨ys, n', hy, hyl, hcl, hf⟩ := struct_cells Try.underlying42 (by kernel_rfl) (by kernel_rfl) h
  obtain ⟨c0, c1, c2, c3, rfl⟩ := list4' hcl
  obtain ⟨y0, y1, y2, y3, rfl⟩ := list4' hyl
  obtain ⟨v3, z3, e3, g3, t3⟩ := hf 3 _ rfl
  simp [ocells] at e
  simp at e3 g3
  subst e3 g3
  rw [e.2.2.2] at t3
  refine ⟨_, _, _, _, hy, ?_⟩
  rcases elem_intsD Try.underlying23 Try.underlying5 (by kernel_rfl) t3 rfl with h0 | ⟨es, sp, h1, h2⟩
  · exact .inl (List.length_eq_zero_iff.1 h0)
  · exact .inr ⟨es, sp, h1, h2⟩
theorem weights_all {H : Type} {P : Program} {t : TypeId} {n : Nat} : ∀ {ds : List (DataW H)} {d : DataW H}, d ∈ ds → n ∈ d.weights P t → n ∈ DataW.weightsAll P t ds
  | d0 :: ds, d, hd, hn => by
    simp only [DataW.weightsAll, List.mem_append]
    rcases List.mem_cons.1 hd with rfl | hd
    · exact .inl hn
    · exact .inr (weights_all hd hn)

theorem small_of {H : Type} {W : World} {o : OpV} {d1 : DataW H} {ds sp : List (DataW H)} {ts : List TypeId} {es : List (DataW H)} {j k : Nat} (hsz : (DataW.weightsEach Try.prog ts es).all (· ≤ reachBytes) = true) (ht : ts[j]? = some 22) (he : es[j]? = some (.slice ds sp)) (hk : ds[k]? = some d1) (ho : DataO o d1) : o.l.length ≤ 140737488351232 := by
  obtain ⟨e0, e1, e2, e3, rfl, h | ⟨es', sp', rfl, hl⟩⟩ := ho
  · rw [h]; simp
  · have e1' : Try.prog.bytesOf 5 = 1 := by kernel_rfl
    have hw : (es'.length + sp'.length) * Try.prog.bytesOf 5 ∈ (DataW.agg [e0, e1, e2, DataW.slice es' sp'] : DataW H).weights Try.prog 42 := by
      simp [DataW.weights, DataW.weightsEach, Try.underlying42, Try.underlying23]
    have hw2 := weights_all (List.mem_of_getElem? hk) hw
    have hw3 : (es'.length + sp'.length) * Try.prog.bytesOf 5 ∈ (DataW.slice ds sp : DataW H).weights Try.prog 22 := by
      simp only [DataW.weights, Try.underlying22, List.mem_cons, List.mem_append]
      exact .inr (.inl hw2)
    have h := List.all_eq_true.1 hsz _ (DataW.weights_mem_each ht he _ hw3)
    rw [e1', Nat.mul_one] at h
    have h2 : es'.length + sp'.length ≤ 140737488351232 := of_decide_eq_true h
    have h3 : es'.length = o.l.length := hl
    omega

theorem lawWalk {H : Type} (enc : TypeId × Value → H) : LawWalk enc Try.prog 5 Try.f5 (fun _ => True) := by
  intro W base args ds p hval hA hsz _
  rw [Try.params5] at hA hval hsz
  obtain ⟨v0, vs0, d0, ds0, p0, q0, hargs, rfl, rfl, h0, r0⟩ := trodAll_cons hA
  obtain ⟨v1, vs1, d1, ds1, p1, q1, rfl, rfl, rfl, h1, r1⟩ := trodAll_cons r0
  obtain ⟨rfl, rfl, rfl⟩ := trodAll_nil r1
  obtain rfl : args = #[v0, v1] := by cases args; simp_all
  obtain ⟨n0, rfl, rfl, rfl, w0⟩ := open_int Try.underlying3 (hval 0 3 v0 rfl rfl) h0
  obtain ⟨a, l, cap, es, sp, rfl, hlc, hcm, hn, hat, hd, hel, hsp, hgood⟩ := open_slice_gen 4 ocells (fun o d => GoodO W o ∧ DataO o d) Try.underlying22 (by kernel_rfl) (by omega) (fun n cs y _ h => elem_op2 n cs y h) (hval 1 22 v1 rfl rfl) h1
  by_cases hb : 1 ≤ n0 ∧ n0 ≤ 5
  · refine plays_ok W n0 a l cap hb.1 hb.2 ?_ hat (fun k hk => (hgood k hk (by omega)).1) (fun k hk => ?_)
    · rcases hd with ⟨_, rfl, _, _⟩ | rfl
      · simp
      · have := sized_slice hsz (j := 1) rfl rfl Try.underlying22
        have e1 : Try.prog.bytesOf 42 = 48 := by kernel_rfl
        rw [e1] at this
        simp only [reachBytes] at this
        omega
    · rcases hd with ⟨_, rfl, _, _⟩ | rfl
      · simp at hk
      · have hk2 : k < es.length := by omega
        exact small_of (W := W) (j := 1) (k := k) hsz rfl rfl (List.getElem?_eq_getElem hk2) (hgood k hk hk2).2
  · exact plays_bad W n0 _ hb

theorem own : ownKnob Try.prog.godebug = none := by kernel_rfl
theorem laidOut : laidOutB Try.prog = true := by kernel_rfl

set_option maxRecDepth 100000 in
theorem lifted (os : Os) (started : os.Started) (H : Type) (enc : TypeId × Value → H) :
    ReturnsInHanded {} Try.checked os 5 .any (Rows.netPlaysSpec.pre6 enc Try.prog Try.f5 Rows.netPlaysRow.domain false) (Rows.netPlaysSpec.post enc Try.prog Try.f5 false true false false) := by
  refine returnsInHanded_of_change_sized (C := Try.checked) own started (by kernel_rfl) Try.func5
    (ChangeSpec.witness6 (enc := enc) (C := Try.checked) false ⟨#[], #[.int .i64 0, .slice none 0 0], []⟩ 8 (by kernel_rfl) (by kernel_rfl) (by kernel_rfl) (by kernel_rfl)) ?_
  intro W base args ds gs before hval hW hcnd hsz _
  exact law_post (C := Try.checked) laidOut (fun ds h => by match ds, h with | [_, _], _ => rfl) 4 rfl Try.underlying4 rfl (by kernel_rfl) hval hW hsz trivial (lawWalk enc)

theorem proved : Rows.NetPlaysSaid :=
  OpenClaim.holds_of_wide 5 Try.f5 rfl rfl rfl rfl rfl rfl rfl ⟨rfl, rfl, rfl, rfl, rfl⟩ rfl rfl rfl rfl rfl (by kernel_rfl) Try.func5 (by kernel_rfl)
    (of_decide_eq_true (by kernel_rfl)) (by unfold Func.isWrapper; first | (rw [if_pos (by decide +kernel)]; kernel_rfl) | (rw [if_neg (by decide +kernel)]; exact ⟨rfl, rfl⟩))
    (fun os started H enc _ => lifted os started H enc)
#print axioms proved
end Go.Proofs.Ytnnfagdhigodbaa.netPlays
