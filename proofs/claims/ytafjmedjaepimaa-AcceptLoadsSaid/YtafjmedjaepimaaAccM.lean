/-
  An acceptor's Load.
-/
import Derived.Test.YtafjmedjaepimaaAccL
import Derived.Deep.CutBlock
import Derived.Deep.RegionHeld3
namespace Go.Proofs.Ytafjmedjaepimaa.accm
open Go.ChangeShapes Go.WideShapes Go.ChangeAt Go.RowKit Go.Joins
open Go.Proofs.Ytafjmedjaepimaa.kit Go.Proofs.Ytafjmedjaepimaa.mapkit Go.Proofs.Ytafjmedjaepimaa.byt Go.Proofs.Ytafjmedjaepimaa.own Go.Proofs.Ytafjmedjaepimaa.accd Go.Proofs.Ytafjmedjaepimaa.acca Go.Proofs.Ytafjmedjaepimaa.accb Go.Proofs.Ytafjmedjaepimaa.acck Go.Proofs.Ytafjmedjaepimaa.acce Go.Proofs.Ytafjmedjaepimaa.accf Go.Proofs.Ytafjmedjaepimaa.accg Go.Proofs.Ytafjmedjaepimaa.acch Go.Proofs.Ytafjmedjaepimaa.acci Go.Proofs.Ytafjmedjaepimaa.accj Go.Proofs.Ytafjmedjaepimaa.accr Go.Proofs.Ytafjmedjaepimaa.accl
set_option linter.unusedVariables false
set_option linter.unusedSimpArgs false
set_option maxHeartbeats 4000000
set_option maxRecDepth 100000

/-- May this vote be the next one? -/
def goodV (r n first least : Int) (v : V4) : Prop := least ≤ v.s ∧ v.s < first + 16 ∧ realB v.r v.n = true ∧ lessB r n v.r v.n = false ∧ v.l.length ≤ 2048
/-- The least slot of the k-th. -/
def lst (first : Int) (vs : List V4) : Nat → Int
  | 0 => first
  | k + 1 => match vs[k]? with
    | some v => v.s + 1
    | none => 0
def okH (r n first : Int) : Prop := 1 ≤ first ∧ first ≤ 1099511627776 ∧ (r = 0 ∧ n = 0 ∨ realB r n = true)
def okL (r n first : Int) (vs : List V4) : Prop := okH r n first ∧ ∀ k (hk : k < vs.length), goodV r n first (lst first vs k) vs[k]
theorem lst_succ (first : Int) (vs : List V4) (k : Nat) (hk : k < vs.length) : lst first vs (k + 1) = vs[k].s + 1 := by
  rw [lst, List.getElem?_eq_getElem hk]
theorem lst_above {r n first : Int} {vs : List V4} : ∀ k, k ≤ vs.length → (∀ j (hj : j < vs.length), j < k → goodV r n first (lst first vs j) vs[j]) → ∀ j (hj : j < vs.length), j < k → vs[j].s < lst first vs k
  | 0, _, _, j, _, h => by omega
  | k + 1, hk, hg, j, hj, h => by
    rw [lst_succ first vs k (by omega)]
    by_cases e : j = k
    · subst e; omega
    · have h1 := lst_above k (by omega) (fun i hi hik => hg i hi (by omega)) j hj (by omega)
      have h2 := (hg k (by omega) (by omega)).1
      omega
theorem lst_from {r n first : Int} {vs : List V4} : ∀ k, k ≤ vs.length → (∀ j (hj : j < vs.length), j < k → goodV r n first (lst first vs j) vs[j]) → first ≤ lst first vs k ∧ (k = 0 ∨ lst first vs k ≤ first + 16)
  | 0, _, _ => ⟨Int.le_refl _, .inl rfl⟩
  | k + 1, hk, hg => by
    have h1 := lst_from k (by omega) (fun i hi hik => hg i hi (by omega))
    have h2 := hg k (by omega) (by omega)
    rw [lst_succ first vs k (by omega)]
    have h3 := h2.1
    have h4 := h2.2.1
    exact ⟨by omega, .inr (by omega)⟩
theorem put4_end {L : List V4} {v : V4} (h : ∀ x ∈ L, x.s < v.s) : put4 L v = L ++ [v] := by
  rw [put4]
  have e1 : L.filter (fun x => decide (x.s < v.s)) = L := List.filter_eq_self.2 (fun x hx => by simpa using h x hx)
  have e2 : L.filter (fun x => decide (v.s < x.s)) = [] := List.filter_eq_nil_iff.2 (fun x hx => by have := h x hx; simp; omega)
  rw [e1, e2]
theorem neBallotZ (w : World) (a b : Int) : (binOp .neq 28 (.agg #[.int .i64 a, .int .i64 b]) (.agg #[.int .i64 0, .int .i64 0])).run Try.prog w = .ok (.bool (!(a == 0 && b == 0))) w := by
  cases h : (a == 0) <;> cases h2 : (b == 0) <;> go_simp
/-- An acceptor that is being filled. -/
def Fill (w : World) (base b mb : Nat) (r n first : Int) (L : List V4) : Prop := ∃ xs, AccAt w base b mb r n first xs ∧ xs.map lv = L
/-- What Load answers. -/
def LoadR (w : World) (r n first : Int) (L : List V4) (e : Ending) (w' : World) : Prop :=
  Below w.heap.size w w' ∧ ((okL r n first L ∧ ∃ b mb, e = .returned (.tuple #[.pointer (some ⟨b, 0, none⟩), .int .i64 0]) ∧ w.heap.size ≤ b ∧ w.heap.size ≤ mb ∧ AccIs w' w.heap.size b mb ⟨r, n, first, L⟩) ∨ (¬ okL r n first L ∧ e = .returned (.tuple #[.pointer none, .int .i64 21])))

theorem load_no (w : World) (r n first : Int) (v : Value) (L : List V4) (h : ¬ okH r n first) :
    Calls Try.prog 27 #[.agg #[.int .i64 r, .int .i64 n], .int .i64 first, v] w (LoadR w r n first L) := by
  have HNO := Lib.hid (show ¬ okL r n first L from fun hh => h hh.1)
  obtain ⟨w1, hw1⟩ : ∃ w1, w1 = w.alloc (.cells #[.int .i64 r, .int .i64 n] 28) := ⟨_, rfl⟩
  have HB1 := Lib.hid (show Below w.heap.size w w1 by rw [hw1]; exact below_new1 _ _)
  have hn1 : w1.heap[w.heap.size]? = some (.cells #[.int .i64 r, .int .i64 n] 28 (0, 0)) := by rw [hw1]; exact hp_alloc_new _ _
  obtain ⟨q0, q1, -, -, qz⟩ := blk2 hn1
  have HW := Lib.hid hw1
  clear hw1 hn1
  by_cases c1 : first < 1
  · have t1 : decide (first < 1) = true := decide_eq_true c1
    clear h
    go_enter Try.func27, Try.ntmps27
    go_wp2_with fail
    rw [← HW.out]
    exact bodyPost_ret (v := .tuple #[.pointer none, .int .i64 21]) (by simp [results, Try.results27, go_sem]) rfl ⟨HB1.out, .inr ⟨HNO.out, rfl⟩⟩
  · by_cases c2 : 1099511627776 < first
    · have t1 : decide (first < 1) = false := decide_eq_false c1
      have t2 : decide (1099511627776 < first) = true := decide_eq_true c2
      clear h
      go_enter Try.func27, Try.ntmps27
      go_wp2_with fail
      rw [← HW.out]
      exact bodyPost_ret (v := .tuple #[.pointer none, .int .i64 21]) (by simp [results, Try.results27, go_sem]) rfl ⟨HB1.out, .inr ⟨HNO.out, rfl⟩⟩
    · have t1 : decide (first < 1) = false := decide_eq_false c1
      have t2 : decide (1099511627776 < first) = false := decide_eq_false c2
      have hz : (!(r == 0 && n == 0)) = true := by
        cases hh : (r == 0 && n == 0) with
        | false => rfl
        | true =>
          simp at hh
          exact absurd ⟨by omega, by omega, .inl hh⟩ h
      have hre : realB r n = false := by
        cases hh : realB r n with
        | false => rfl
        | true => exact absurd ⟨by omega, by omega, .inr hh⟩ h
      have hq := fun w => neBallotZ w r n
      rw [hz] at hq
      have HRE := Lib.hid (real_any r n w1)
      rw [hre] at HRE
      clear h hz hre
      go_enter Try.func27, Try.ntmps27
      go_wp2_with fail
      rw [← HW.out]
      refine HRE.out.mono ?_; rintro e w2 ⟨rfl, hb2⟩
      have HB2 := Lib.hid (below_step HB1.out hb2)
      clear hb2 HRE
      go_wp2_with fail
      exact bodyPost_ret (v := .tuple #[.pointer none, .int .i64 21]) (by simp [results, Try.results27, go_sem]) rfl ⟨HB2.out, .inr ⟨HNO.out, rfl⟩⟩

theorem load_yes (w : World) (r n first : Int) (a : Option Addr) (c : Nat) (vs : List Vt) (hrow : RowV w (.slice a vs.length c) vs) (h : okH r n first) (hsl : ∀ v ∈ vs, -9223372036854775808 ≤ v.s ∧ v.s ≤ 9223372036854775807) :
    Calls Try.prog 27 #[.agg #[.int .i64 r, .int .i64 n], .int .i64 first, .slice a vs.length c] w (LoadR w r n first (vs.map lv)) := by
  obtain ⟨hf1, hf2, hrn⟩ := h
  have HH := Lib.hid (show okH r n first from ⟨hf1, hf2, hrn⟩)
  obtain ⟨w1, hw1⟩ : ∃ w1, w1 = w.alloc (.cells #[.int .i64 r, .int .i64 n] 28) := ⟨_, rfl⟩
  have HB1 := Lib.hid (show Below w.heap.size w w1 by rw [hw1]; exact below_new1 _ _)
  have hn1 : w1.heap[w.heap.size]? = some (.cells #[.int .i64 r, .int .i64 n] 28 (0, 0)) := by rw [hw1]; exact hp_alloc_new _ _
  have HN1 := Lib.hid hn1
  obtain ⟨q0, q1, -, -, qz⟩ := blk2 hn1
  have HW := Lib.hid hw1
  have t1 : decide (first < 1) = false := decide_eq_false (by omega)
  have t2 : decide (1099511627776 < first) = false := decide_eq_false (by omega)
  have HRW := Lib.hid (fun (wx : World) (hb : Below w.heap.size w wx) => hrow.below hb)
  have HSL := Lib.hid hsl
  have hmm := @run_makeMap Try.prog
  clear hw1 hn1 hrow hsl
  go_enter Try.func27, Try.ntmps27
  go_upto_region 1 with fail
  rw [← HW.out]
  go_cut [27] from 12 to 27 (fun t wx => t = .bool false ∧ Hid (Below w1.heap.size w1 wx))
  case first =>
    have hq := fun w => neBallotZ w r n
    by_cases hz : (r == 0 && n == 0) = true
    · rw [hz] at hq
      simp only [Bool.not_true] at hq
      clear hz hrn
      go_wp2_with fail
      go_meet
      case rel => exact ⟨rfl, (Below.refl _ _ : Below w1.heap.size w1 w1)⟩
    · have hz' : (r == 0 && n == 0) = false := by simpa using hz
      have hre : realB r n = true := by
        rcases hrn with ⟨h1, h2⟩ | h
        · exact absurd (by simp [h1, h2]) hz
        · exact h
      rw [hz'] at hq
      simp only [Bool.not_false] at hq
      have HRE := Lib.hid (real_any r n w1)
      rw [hre] at HRE
      clear hz hz' hrn hre
      go_wp2_with fail
      refine HRE.out.mono ?_; rintro e w2 ⟨rfl, hb2⟩
      have HB2 := Lib.hid hb2
      clear hb2 HRE
      go_wp2_with fail
      go_meet
      case rel => exact ⟨rfl, HB2⟩
  case rest =>
    obtain ⟨rfl, HBC⟩ := hcut
    have hnc := hp_step HN1.out HBC.out
    have HBW := Lib.hid (below_step HB1.out HBC.out)
    obtain ⟨q0, q1, -, -, qz⟩ := blk2 hnc
    have HNC := Lib.hid hnc
    have hN := new2 wc (.map #[] 0) (.cells #[.int .i64 r, .int .i64 n, .int .i64 first, .map (some wc.heap.size)] 63)
    have hbN := below_new2 wc (.map #[] 0) (.cells #[.int .i64 r, .int .i64 n, .int .i64 first, .map (some wc.heap.size)] 63)
    have hmN := (map_made wc Try.prog 3).alloc (.cells #[.int .i64 r, .int .i64 n, .int .i64 first, .map (some wc.heap.size)] 63)
    obtain ⟨w3, hw3⟩ : ∃ w3, w3 = (wc.alloc (.map #[] 0)).alloc (.cells #[.int .i64 r, .int .i64 n, .int .i64 first, .map (some wc.heap.size)] 63) := ⟨_, rfl⟩
    rw [← hw3] at hN hbN hmN
    have hszc := HBW.out.size
    have hA3 : Fill w3 w.heap.size (wc.heap.size + 1) wc.heap.size r n first [] := by
      refine ⟨[], ⟨hN.2.1, ?_, ⟨by omega, by omega⟩, List.Pairwise.nil, ⟨hf1, hf2⟩, by simp, by simp, by simp⟩, rfl⟩
      have e : accd.look ([] : List Vt) = fun _ => none := by funext x; cases x <;> first | rfl | (rename_i k _; cases k <;> rfl)
      rw [e]
      exact hmN
    have HA3 := Lib.hid hA3
    have HB3 := Lib.hid (below_step HBW.out hbN)
    have HN3 := Lib.hid (hp_step HNC.out hbN)
    have HW3 := Lib.hid hw3
    have hsz3 := hbN.size
    clear hnc hN hbN hmN hA3 hw3 hrn
    go_wp2_with fail
    rw [← HW3.out]
    obtain ⟨b, hbd⟩ : ∃ b, b = wc.heap.size + 1 := ⟨_, rfl⟩
    obtain ⟨mb, hmd⟩ : ∃ mb, mb = wc.heap.size := ⟨_, rfl⟩
    rw [← hbd, ← hmd] at HA3
    rw [← hbd]
    have hbb : w.heap.size ≤ b := by omega
    have hmb : w.heap.size ≤ mb := by omega
    obtain ⟨pb, hpb⟩ : ∃ pb, pb = w.heap.size := ⟨_, rfl⟩
    rw [← hpb] at HN3 ⊢
    have HPB := Lib.hid hpb
    clear hbd hmd q0 q1 qz HNC HN1 HBC HB1 HBW hsz3 hszc hpb
    go_loopw [9, 36] (fun q i wr => ∃ k : Nat, k ≤ vs.length ∧ i = .int .i64 k ∧ q = .int .i64 (lst first (vs.map lv) k) ∧ Hid (Fill wr w.heap.size b mb r n first ((vs.map lv).take k)) ∧ Hid (Below w.heap.size w wr) ∧ Hid (wr.heap[pb]? = some (.cells #[.int .i64 r, .int .i64 n] 28 (0, 0))) ∧ Hid (∀ j (hj : j < (vs.map lv).length), j < k → goodV r n first (lst first (vs.map lv) j) (vs.map lv)[j])) (fun _ i _ => vs.length - (intOf i).toNat)
    case atStart => exact ⟨0, Nat.zero_le _, rfl, rfl, HA3, HB3, HN3, fun j _ h => by omega⟩
    case round =>
      obtain ⟨k, hk, rfl, rfl, HF, HB, HNR, HG⟩ := hrel
      by_cases hlt : k < vs.length
      · have hkm : k < (vs.map lv).length := by rw [List.length_map]; exact hlt
        have hsl := HSL.out _ (List.getElem_mem hlt)
        have hrd := (HRW.out wr HB.out).rd _ (List.getElem_mem hlt)
        obtain ⟨g, c9, e9, hgz, hcap9, x0, x1, x2, x3⟩ := (HRW.out wr HB.out).cells hlt
        simp only [Value.slice.injEq, true_and] at e9
        obtain ⟨rfl, rfl⟩ := e9
        have hcap2 : vs.length ≤ 9223372036854775807 := by unfold maxLen at hcap9; omega
        have hgm : (vs.map lv)[k] = lv vs[k] := by simp
        have hls := lst_succ first (vs.map lv) k hkm
        have hab := lst_above k (by omega) (fun j hj h => HG.out j hj h)
        have hfr := lst_from k (by omega) (fun j hj h => HG.out j hj h)
        rw [hgm] at hls
        have hbad : ¬ goodV r n first (lst first (vs.map lv) k) (lv vs[k]) → ¬ okL r n first (vs.map lv) := by
          intro h hok
          have := hok.2 k hkm
          rw [hgm] at this
          exact h this
        have hgood : goodV r n first (lst first (vs.map lv) k) (lv vs[k]) → ∀ j (hj : j < (vs.map lv).length), j < k + 1 → goodV r n first (lst first (vs.map lv) j) (vs.map lv)[j] := by
          intro h j hj hjk
          by_cases e : j = k
          · subst e; rw [hgm]; exact h
          · exact HG.out j hj (by omega)
        have htk : (vs.map lv).take (k + 1) = (vs.map lv).take k ++ [lv vs[k]] := by rw [List.take_succ_eq_append_getElem hkm, hgm]
        have hlow : ∀ y ∈ (vs.map lv).take k, y.s < lst first (vs.map lv) k := by
          intro y hy
          obtain ⟨j, hj, rfl⟩ := List.mem_take_iff_getElem.1 hy
          exact hab j (by omega) (by omega)
        obtain ⟨v, hv⟩ : ∃ v, v = vs[k] := ⟨_, rfl⟩
        rw [← hv] at hsl hrd x0 x1 x2 x3 hls hbad hgood htk
        obtain ⟨q, hq⟩ : ∃ q, q = lst first (vs.map lv) k := ⟨_, rfl⟩
        rw [← hq] at hbad hgood hlow hfr
        rw [← hq]
        have HSLV := Lib.hid hsl
        have HBAD := Lib.hid hbad
        have HGOOD := Lib.hid hgood
        have HTK := Lib.hid htk
        have HLOW := Lib.hid hlow
        have HLS := Lib.hid hls
        have HFR := Lib.hid hfr
        obtain ⟨w5, hw5⟩ : ∃ w5, w5 = wr.alloc (.cells #[.int .i64 v.s, .int .i64 v.r, .int .i64 v.n, .slice v.a v.l.length v.c] 38) := ⟨_, rfl⟩
        have hn5 : w5.heap[wr.heap.size]? = some (.cells #[.int .i64 v.s, .int .i64 v.r, .int .i64 v.n, .slice v.a v.l.length v.c] 38 (0, 0)) := by rw [hw5]; exact hp_alloc_new _ _
        have hb5 : Below wr.heap.size wr w5 := by rw [hw5]; exact below_new1 _ _
        have HB5 := Lib.hid (below_step HB.out hb5)
        have HN5 := Lib.hid hn5
        have HNP := Lib.hid (hp_step HNR.out hb5)
        have HF5 : Hid (Fill w5 w.heap.size b mb r n first ((vs.map lv).take k)) := by
          obtain ⟨xs, h1, h2⟩ := HF.out
          exact ⟨xs, h1.below hb5, h2⟩
        have HRD5 := Lib.hid (hrd.below hb5)
        have HW5 := Lib.hid hw5
        obtain ⟨nb, hnb⟩ : ∃ nb, nb = wr.heap.size := ⟨_, rfl⟩
        rw [← hnb] at HN5
        have HNB := Lib.hid hnb
        have hnbp : pb < nb := by have := (kit.blk HNR.out).2.2; omega
        obtain ⟨y0, y1, y2, y3, yz⟩ := blk4 HN5.out
        obtain ⟨p0, p1, -, -, pz⟩ := blk2 HNP.out
        have hwr : IntKind.i64.wrap (first + 16) = first + 16 := IntWalk.i64_in _ (by omega)
        clear hsl hrd hcap9 hgm hls hab hfr hbad hgood htk hlow hv hq hn5 hb5 hw5 hnb HF HNR HG
        go_upto_region 8 with fail
        rw [← HW5.out, ← HNB.out]
        clear HW5 HNB x0 x1 x2 x3
        by_cases c1 : v.s < q
        · have t3 : decide (v.s < q) = true := decide_eq_true c1
          go_wp2_with fail
          exact bodyPost_ret (v := .tuple #[.pointer none, .int .i64 21]) (by simp [results, Try.results27, go_sem]) rfl ⟨HB5.out, .inr ⟨HBAD.out (fun h => by have := h.1; simp only [lv] at this; omega), rfl⟩⟩
        have t3 : decide (v.s < q) = false := decide_eq_false c1
        by_cases c2 : first + 16 ≤ v.s
        · have t4 : decide (first + 16 ≤ v.s) = true := decide_eq_true c2
          go_wp2_with fail
          exact bodyPost_ret (v := .tuple #[.pointer none, .int .i64 21]) (by simp [results, Try.results27, go_sem]) rfl ⟨HB5.out, .inr ⟨HBAD.out (fun h => by have := h.2.1; simp only [lv] at this; omega), rfl⟩⟩
        have t4 : decide (first + 16 ≤ v.s) = false := decide_eq_false c2
        have HRE := Lib.hid (real_any v.r v.n w5)
        by_cases c3 : realB v.r v.n = false
        · rw [c3] at HRE
          have HC3 := Lib.hid c3
          clear c3
          go_wp2_with fail
          refine HRE.out.mono ?_; rintro e w6 ⟨rfl, hb6⟩
          have HB6 := Lib.hid (below_step HB5.out hb6)
          clear hb6 HRE
          go_wp2_with fail
          exact bodyPost_ret (v := .tuple #[.pointer none, .int .i64 21]) (by simp [results, Try.results27, go_sem]) rfl ⟨HB6.out, .inr ⟨HBAD.out (fun h => by have := h.2.2.1; simp only [lv] at this; rw [HC3.out] at this; simp at this), rfl⟩⟩
        have c3' : realB v.r v.n = true := by simpa using c3
        rw [c3'] at HRE
        have HC3 := Lib.hid c3'
        clear c3 c3'
        go_wp2_with fail
        refine HRE.out.mono ?_; rintro e w6 ⟨rfl, hb6⟩
        have HB6 := Lib.hid (below_step HB5.out hb6)
        have HN6 := Lib.hid (hp_step HN5.out hb6)
        have HNP6 := Lib.hid (hp_step HNP.out hb6)
        have HF6 : Hid (Fill w6 w.heap.size b mb r n first ((vs.map lv).take k)) := by
          obtain ⟨xs, h1, h2⟩ := HF5.out
          exact ⟨xs, h1.below hb6, h2⟩
        have HRD6 := Lib.hid (HRD5.out.below hb6)
        have hb56 := Lib.hid hb6
        clear hb6 HRE y0 y1 y2 y3 yz p0 p1 pz
        obtain ⟨y0, y1, y2, y3, yz⟩ := blk4 HN6.out
        obtain ⟨p0, p1, -, -, pz⟩ := blk2 HNP6.out
        have HLE := Lib.hid (less_any r n v.r v.n w6)
        by_cases c4 : lessB r n v.r v.n = true
        · rw [c4] at HLE
          have HC4 := Lib.hid c4
          clear c4
          go_wp2_with fail
          refine HLE.out.mono ?_; rintro e w7 ⟨rfl, hb7⟩
          have HB7 := Lib.hid (below_step HB6.out hb7)
          clear hb7 HLE
          go_wp2_with fail
          exact bodyPost_ret (v := .tuple #[.pointer none, .int .i64 21]) (by simp [results, Try.results27, go_sem]) rfl ⟨HB7.out, .inr ⟨HBAD.out (fun h => by have := h.2.2.2.1; simp only [lv] at this; rw [HC4.out] at this; simp at this), rfl⟩⟩
        have c4' : lessB r n v.r v.n = false := by simpa using c4
        rw [c4'] at HLE
        have HC4 := Lib.hid c4'
        clear c4 c4'
        go_wp2_with fail
        refine HLE.out.mono ?_; rintro e w7 ⟨rfl, hb7⟩
        have HB7 := Lib.hid (below_step HB6.out hb7)
        have HN7 := Lib.hid (hp_step HN6.out hb7)
        have HNP7 := Lib.hid (hp_step HNP6.out hb7)
        have HRD7 := Lib.hid (HRD6.out.below hb7)
        obtain ⟨xs, hx1, hx2⟩ := HF6.out
        have HA7 := Lib.hid (hx1.below hb7)
        have HX2 := Lib.hid hx2
        have hne1 : nb ≠ b := by
          intro e
          have h := hx1.blk
          rw [← e, HN6.out] at h
          simp at h
        have hne2 : nb ≠ mb := by
          intro e
          obtain ⟨es, cl, hm⟩ := hx1.map.obj
          rw [← e, HN6.out] at hm
          simp at hm
        have hne3 : pb ≠ b := by
          intro e
          have h := hx1.blk
          rw [← e, HNP6.out] at h
          simp at h
        have hne4 : pb ≠ mb := by
          intro e
          obtain ⟨es, cl, hm⟩ := hx1.map.obj
          rw [← e, HNP6.out] at hm
          simp at hm
        clear hb7 HLE y0 y1 y2 y3 yz p0 p1 pz hx1 hx2
        obtain ⟨y0, y1, y2, y3, yz⟩ := blk4 HN7.out
        by_cases c5 : 2048 < v.l.length
        · have t5 : decide ((2048 : Int) < (v.l.length : Int)) = true := decide_eq_true (by omega)
          have t5' : (2048 : Int) < (v.l.length : Int) := by omega
          go_wp2_with fail
          exact bodyPost_ret (v := .tuple #[.pointer none, .int .i64 21]) (by simp [results, Try.results27, go_sem]) rfl ⟨HB7.out, .inr ⟨HBAD.out (fun h => by have := h.2.2.2.2; simp only [lv] at this; omega), rfl⟩⟩
        have t5 : decide ((2048 : Int) < (v.l.length : Int)) = false := decide_eq_false (by omega)
        have t5' : ¬ (2048 : Int) < (v.l.length : Int) := by omega
        have hlen : v.l.length ≤ 2048 := by omega
        have HGD := Lib.hid (HGOOD.out ⟨(by simp only [lv]; omega), (by simp only [lv]; omega), HC3.out, HC4.out, hlen⟩)
        have hbw7 := HB7.out.size
        have hbd : Below w7.heap.size w7 w7.drew := below_drewN (Below.refl _ w7) 1
        have HCP := Lib.hid (copied_b w7.drew v (HRD7.out.below hbd))
        have HBD := Lib.hid hbd
        obtain ⟨hs1, hs2⟩ := HSLV.out
        have hfr1 := HFR.out.1
        have hrg : first ≤ v.s ∧ v.s < first + 16 := ⟨by omega, by omega⟩
        have HLW2 : Hid (∀ y ∈ (vs.map lv).take k, y.s < v.s) := fun y hy => by have := HLOW.out y hy; omega
        obtain ⟨x0, x1, x2, x3, xz⟩ := blk4 HA7.out.blk
        have hsum : IntKind.i64.wrap (v.s + 1) = v.s + 1 := IntWalk.i64_in _ (by omega)
        clear c1 c2 c5 hbd t3 t4
        go_wp2_with fail
        go_region_held3 (fun w' => w'.cell? ⟨b, 3, none⟩ = some (.map (some mb)) ∧ w'.cell? ⟨nb, 0, none⟩ = some (.int .i64 v.s) ∧ w'.cell? ⟨nb, 1, none⟩ = some (.int .i64 v.r) ∧ w'.cell? ⟨nb, 2, none⟩ = some (.int .i64 v.n) ∧ w'.cell? ⟨nb, 3, none⟩ = some (.slice v.a v.l.length v.c)) (first | (exact ⟨x3, y0, y1, y2, y3⟩) | (exact ⟨z3, u0, u1, u2, u3⟩) | (exact ⟨s3, q0, q1, q2, q3⟩)) (first | (go_at_call 35; refine HCP.out.mono ?_; rintro e w8 ⟨a8, c8, rfl, hbd8, hb8⟩; have hb78 := below_step HBD.out hb8; have hA8 := HA7.out.below hb78; obtain ⟨z0, z1, z2, z3, zz⟩ := blk4 hA8.blk; have hn8 := hp_step HN7.out hb78; obtain ⟨u0, u1, u2, u3, uz⟩ := blk4 hn8; obtain ⟨w9, hup, hm9, hg9⟩ := votes_store hA8.map hA8.ord hA8.len ⟨v.s, v.r, v.n, v.l, a8, c8⟩ hs1 hs2; obtain ⟨hA9, hk89⟩ := acc_store hA8 ⟨v.s, v.r, v.n, v.l, a8, c8⟩ hm9 hg9 (own_mono hbd8 hbw7) hlen hrg; obtain ⟨s0, s1, s2, s3, sz⟩ := blk4 hA9.blk; have hn9 := (hg9.block nb uz (fun e => by have := Option.some.inj e; omega)).trans hn8; have hnp9 := (hg9.block pb (kit.blk (hp_step HNP7.out hb78)).2.2 (fun e => by have := Option.some.inj e; omega)).trans (hp_step HNP7.out hb78); obtain ⟨q0, q1, q2, q3, qz⟩ := blk4 hn9; have HA9 := Lib.hid hA9; have HNP9 := Lib.hid hnp9; have HB9 := Lib.hid ((below_step HB7.out hb78).trans (keep_below hk89 (below_step HB7.out hb78).size hbb hmb)); simp only [Vt.val] at hup; clear hbd8 hb8 hb78 hA8 hn8 hm9 hg9 hA9 hk89 hn9 hnp9))
        have HFI : Hid (Fill w9 w.heap.size b mb r n first ((vs.map lv).take (k + 1))) := by
          refine ⟨_, HA9.out, ?_⟩
          rw [put_lv, HX2.out, put4_end (fun y hy => HLW2.out y hy), HTK.out]
          rfl
        go_wp2_with fail
        go_roundw
        case rel => exact ⟨k + 1, by omega, by go_num, by rw [HLS.out]; go_num, HFI, HB9, HNP9, HGD⟩
        case measure => simp [intOf]; omega
      · obtain rfl : k = vs.length := by omega
        have HOK := Lib.hid (show okL r n first (vs.map lv) from ⟨HH.out, fun j hj => HG.out j hj (by rw [List.length_map] at hj; exact hj)⟩)
        have HFE : Hid (AccIs wr w.heap.size b mb ⟨r, n, first, vs.map lv⟩) := by
          obtain ⟨xs, h1, h2⟩ := HF.out
          rw [List.take_of_length_le (by rw [List.length_map]; exact Nat.le_refl _)] at h2
          exact ⟨xs, h1, h2⟩
        go_wp2_with fail
        exact bodyPost_ret (v := .tuple #[.pointer (some ⟨b, 0, none⟩), .int .i64 0]) (by simp [results, Try.results27, go_sem]) rfl ⟨HB.out, .inl ⟨HOK.out, b, mb, rfl, hbb, hmb, HFE.out⟩⟩
end Go.Proofs.Ytafjmedjaepimaa.accm
