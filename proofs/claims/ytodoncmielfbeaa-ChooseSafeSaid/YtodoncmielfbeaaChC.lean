/-
  The document's Chosen.
-/
import Derived.Test.YtodoncmielfbeaaChO
namespace Go.Proofs.Ytodoncmielfbeaa.chc
open Go.ChangeShapes Go.WideShapes Go.ChangeAt Go.RowKit
open Go.Proofs.Ytodoncmielfbeaa.kit Go.Proofs.Ytodoncmielfbeaa.mapkit Go.Proofs.Ytodoncmielfbeaa.byt Go.Proofs.Ytodoncmielfbeaa.own Go.Proofs.Ytodoncmielfbeaa.accd Go.Proofs.Ytodoncmielfbeaa.chd Go.Proofs.Ytodoncmielfbeaa.chb Go.Proofs.Ytodoncmielfbeaa.chr Go.Proofs.Ytodoncmielfbeaa.chrr Go.Proofs.Ytodoncmielfbeaa.che Go.Proofs.Ytodoncmielfbeaa.chf Go.Proofs.Ytodoncmielfbeaa.chq Go.Proofs.Ytodoncmielfbeaa.cho
set_option linter.unusedVariables false
set_option linter.unusedSimpArgs false
set_option maxHeartbeats 2000000
set_option maxRecDepth 100000

theorem neBallotZ (w : World) (a b : Int) : (binOp .neq 43 (.agg #[.int .i64 a, .int .i64 b]) (.agg #[.int .i64 0, .int .i64 0])).run Try.prog w = .ok (.bool (!(a == 0 && b == 0))) w := by
  cases h : (a == 0) <;> cases h2 : (b == 0) <;> go_simp
/-- What is chosen. -/
def chosenA (nodes : Int) (L : List chp.Pr) : List (Int × List Nat) := if chp.Right nodes L then chosenL nodes L (slotsOf L) else []
theorem rchosen_form (w : World) (nodes : Int) (a : Option Addr) (c : Nat) (l : List Pt) (h : RowP w a l) (hr : rightB nodes (l.map pv) = false) :
    Calls Try.prog 11 #[.int .i64 nodes, .slice a l.length c] w fun e w' => e = .returned (.slice none 0 0) ∧ Below w.heap.size w w' := by
  have HR := Lib.hid (rright_ok w nodes a c l h)
  rw [hr] at HR
  clear h hr
  go_enter Try.func11, Try.ntmps11
  go_wp2_with fail
  refine HR.out.mono ?_; rintro e w1 ⟨rfl, hb1⟩
  go_wp2_with fail
  go_ret
  exact ⟨rfl, hb1⟩
theorem lst_zero (ss : List Int) : lst ss 0 = 0 := rfl
theorem lst_succ (ss : List Int) (k : Nat) (h : k < ss.length) : lst ss (k + 1) = ss[k] := by
  unfold lst
  rw [if_neg (by omega), show k + 1 - 1 = k by omega, List.getElem?_eq_getElem h]; rfl
theorem slots_range {nodes : Int} {L : List chp.Pr} {ss : List Int} (hr : chp.Right nodes L) (hs : IsSlots ss L) : ∀ x ∈ ss, 1 ≤ x ∧ x ≤ 1099511627776 := by
  intro x hx
  obtain ⟨p, hp, v, hv, rfl⟩ := (hs.2 x).1 hx
  have := (chp.lastOk_lt (prOk_iff.1 (hr.2.1 p hp)).2.2).1 v hv
  omega
theorem lst_range {ss : List Int} (h : ∀ x ∈ ss, 1 ≤ x ∧ x ≤ 1099511627776) (k : Nat) (hk : k ≤ ss.length) : 0 ≤ lst ss k ∧ lst ss k ≤ 1099511627776 := by
  cases k with
  | zero => rw [lst_zero]; omega
  | succ k =>
    rw [lst_succ ss k (by omega)]
    have := h _ (List.getElem_mem (show k < ss.length by omega))
    omega
theorem lst_lt {ss : List Int} {l : List chp.Pr} (hs : IsSlots ss l) (h : ∀ x ∈ ss, 1 ≤ x ∧ x ≤ 1099511627776) (k : Nat) (hk : k < ss.length) : lst ss k < ss[k] := by
  cases k with
  | zero => rw [lst_zero]; have := h _ (List.getElem_mem hk); omega
  | succ k =>
    rw [lst_succ ss k (by omega)]
    exact List.pairwise_iff_getElem.1 hs.1 k (k + 1) (by omega) hk (by omega)
theorem won_pos {nodes : Int} {L : List chp.Pr} (hr : chp.Right nodes L) (s : Int) : ∀ c ∈ chp.forS L s, chp.lessB 0 0 c.2.r c.2.n = true := by
  intro c hc
  obtain ⟨n, -, hx⟩ := List.mem_flatMap.1 hc
  obtain ⟨p, hp, hx⟩ := List.mem_flatMap.1 hx
  obtain ⟨v, hv, rfl⟩ := List.mem_map.1 hx
  have := (chp.lastOk_lt (prOk_iff.1 (hr.2.1 p (List.mem_filter.1 hp).1)).2.2).1 v (List.mem_filter.1 hv).1
  simp [chp.lessB]
  omega
theorem chS_none {nodes : Int} {L : List chp.Pr} {s : Int} {st : Int × Int × List Nat} (hr : chp.Right nodes L) (h : (wonS nodes L s).foldl chp.stp (0, 0, []) = st) (hz : st.1 = 0 ∧ st.2.1 = 0) : chS nodes L s = none := by
  have hp : ∀ c ∈ wonS nodes L s, chp.lessB 0 0 c.2.r c.2.n = true := fun c hc => won_pos hr s c (List.mem_filter.1 hc).1
  have h1 := chp.best_doc (wonS nodes L s) none hp
  have h2 : (wonS nodes L s).foldl chp.stp (0, 0, []) = chp.outB ((wonS nodes L s).foldl chp.pick none) := h1
  rw [h] at h2
  have h3 := (chp.out_zero hp).1 (by rw [← h2]; exact hz)
  unfold chS
  rw [h3]; rfl
theorem chS_some {nodes : Int} {L : List chp.Pr} {s : Int} {st : Int × Int × List Nat} (hr : chp.Right nodes L) (h : (wonS nodes L s).foldl chp.stp (0, 0, []) = st) (hz : ¬ (st.1 = 0 ∧ st.2.1 = 0)) : chS nodes L s = some (s, st.2.2) := by
  have hne : wonS nodes L s ≠ [] := by
    intro e
    rw [e] at h
    apply hz
    rw [← h]
    exact ⟨rfl, rfl⟩
  unfold chS
  rw [h]
  cases h2 : wonS nodes L s with
  | nil => exact absurd h2 hne
  | cons c t => rfl

theorem hDj {cs : List Ct} {D : List (Int × chp.V)} (h : cs.map cvv = D) (j : Nat) (hj : j < cs.length) : D.take (j + 1) = D.take j ++ [cvv cs[j]] := by
  rw [← h, List.take_succ_eq_append_getElem (by rw [List.length_map]; exact hj), List.getElem_map]
theorem rchosen_go (w : World) (nodes : Int) (a : Option Addr) (c : Nat) (l : List Pt) (h : RowP w a l) (hr : rightB nodes (l.map pv) = true) :
    Calls Try.prog 11 #[.int .i64 nodes, .slice a l.length c] w fun e w' => ∃ (a' : Option Addr) (c' : Nat) (es : List Et), e = .returned (.slice a' es.length c') ∧ OutE w w' a' c' es (chosenL nodes (l.map pv) (slotsOf (l.map pv))) ∧ Below w.heap.size w w' := by
  obtain ⟨j0, hj, hy0, hy1, hy2⟩ := info_parts infoEntry
  obtain ⟨i0, hi, hz0, hz1, hz2⟩ := info_parts infoByte
  have HR := Lib.hid (rright_ok w nodes a c l h)
  rw [hr] at HR
  have hRt := right_of hr
  have hl5 := (right_size hRt).1
  have H16 := Lib.hid (right_size hRt).2
  have hnod := hRt.1
  have hRT := Lib.hid hRt
  obtain ⟨L, hL⟩ : ∃ L, L = l.map pv := ⟨_, rfl⟩
  rw [← hL] at hRT
  rw [← hL]
  have hss := slots_of L
  obtain ⟨ss, hss0⟩ : ∃ ss, ss = slotsOf L := ⟨_, rfl⟩
  rw [← hss0] at hss ⊢
  have hsr := slots_range hRT.out hss
  have hsl : ss.length ≤ 80 := by
    have := slots_len (k := 16) hss (fun p hp => by
      rw [hL] at hp
      obtain ⟨q, hq, rfl⟩ := List.mem_map.1 hp
      simpa [pv] using H16.out q hq)
    rw [hL, List.length_map] at this
    omega
  have HNX := Lib.hid (fun k hk => nxt_slots hss (fun p hp v hv => (hsr v.s ((hss.2 _).2 ⟨p, hp, v, hv, rfl⟩)).1) k hk)
  have HSR := Lib.hid hsr
  have HLR := Lib.hid (fun k hk => lst_range hsr k hk)
  have HLT := Lib.hid (fun k hk => lst_lt hss hsr k hk)
  have HL := Lib.hid hL
  have HH := Lib.hid (fun (wr : World) (hb : Below w.heap.size w wr) => h.below hb)
  clear h hr hRt hL hss0 hss hsr
  go_enter Try.func11, Try.ntmps11
  go_wp2_with fail
  refine HR.out.mono ?_; rintro e w1 ⟨rfl, hb1⟩
  have HB1 := Lib.hid hb1
  clear hb1 HR
  go_wp2_with fail
  go_loopw [5, 6] (fun o s wr => ∃ k : Nat, k ≤ ss.length ∧ s = .int .i64 (lst ss k) ∧ Hid (∃ a c es, o = .slice a es.length c ∧ OutE w wr a c es (chosenL nodes L (ss.take k))) ∧ Hid (Below w.heap.size w wr)) (fun _ s _ => (1099511627776 - intOf s).toNat)
  case atStart => exact ⟨0, Nat.zero_le _, rfl, ⟨none, 0, [], rfl, outE_nil _ _⟩, HB1.out⟩
  case round =>
    obtain ⟨k, hk, rfl, HO, HB⟩ := hrel
    obtain ⟨q, hq⟩ : ∃ q, q = lst ss k := ⟨_, rfl⟩
    have hqr := HLR.out k hk
    rw [← hq] at hqr ⊢
    have HQ := Lib.hid hq
    have hP := HH.out wr HB.out
    have HC := Lib.hid hP.cells
    have HGP := Lib.hid hP.good
    clear hq hP
    go_wp2_with fail
    go_loop [7, 8] (fun s i => ∃ k : Nat, k ≤ l.length ∧ i = .int .i64 k ∧ s = .int .i64 (nxtL q 0 ((l.take k).map pv))) (fun _ i => l.length - (intOf i).toNat)
    case atStart => exact ⟨0, Nat.zero_le _, rfl, rfl⟩
    case round =>
      obtain ⟨i, hi', rfl, rfl⟩ := hrel
      by_cases hlt : i < l.length
      · obtain ⟨g, off, rfl, hgz, -, x1⟩ := HC.out i hlt
        have hgp := HGP.out _ (List.getElem_mem hlt)
        have hsn := pv_take l i hlt
        obtain ⟨p, hp⟩ : ∃ p, p = l[i] := ⟨_, rfl⟩
        rw [← hp] at x1 hgp hsn
        obtain ⟨pn, pvs, pa, pc⟩ := p
        dsimp only at x1
        have hto : nxtL q 0 ((l.take (i + 1)).map pv) = nxtV q (nxtL q 0 ((l.take i).map pv)) (pvs.map vv) := by rw [hsn, nxtL_snoc]; rfl
        have HTO := Lib.hid hto
        have hpl : pvs.length ≤ 2932031007402 := hgp.row.len
        have HRW := Lib.hid hgp.row
        obtain ⟨s0, hs0⟩ : ∃ s0, s0 = nxtL q 0 ((l.take i).map pv) := ⟨_, rfl⟩
        rw [← hs0] at HTO ⊢
        clear hsn hp hto hgp hs0
        go_wp2_with fail
        go_loop [7, 9] (fun s j => ∃ m : Nat, m ≤ pvs.length ∧ j = .int .i64 m ∧ s = .int .i64 (nxtV q s0 ((pvs.take m).map vv))) (fun _ j => pvs.length - (intOf j).toNat)
        case atStart => exact ⟨0, Nat.zero_le _, rfl, rfl⟩
        case round =>
          obtain ⟨m, hm, rfl, rfl⟩ := hrel
          by_cases hmt : m < pvs.length
          · obtain ⟨g2, off2, rfl, hgz2, v0, -, -, -⟩ := HRW.out.cells m hmt
            have hvs := vv_take pvs m hmt
            obtain ⟨v, hv⟩ : ∃ v, v = pvs[m] := ⟨_, rfl⟩
            rw [← hv] at v0 hvs
            have HTV : Hid (nxtV q s0 ((pvs.take (m + 1)).map vv) = if q < v.s ∧ (nxtV q s0 ((pvs.take m).map vv) = 0 ∨ v.s < nxtV q s0 ((pvs.take m).map vv)) then v.s else nxtV q s0 ((pvs.take m).map vv)) := by
              simp only [Hid]; rw [hvs, nxtV_snoc]; rfl
            obtain ⟨s1, hs1⟩ : ∃ s1, s1 = nxtV q s0 ((pvs.take m).map vv) := ⟨_, rfl⟩
            rw [← hs1] at HTV ⊢
            clear hvs hv hs1
            by_cases c1 : q < v.s
            · have t1 : decide (q < v.s) = true := decide_eq_true c1
              by_cases c2 : s1 = 0
              · subst c2
                rw [if_pos ⟨c1, .inl rfl⟩] at HTV
                clear c1
                go_wp2_with fail
                go_round
                case rel => exact ⟨m + 1, by omega, by go_num, by rw [HTV.out]⟩
                case measure => simp [intOf]; omega
              · have t2 : (s1 == 0) = false := by simpa using c2
                by_cases c3 : v.s < s1
                · have t3 : decide (v.s < s1) = true := decide_eq_true c3
                  rw [if_pos ⟨c1, .inr c3⟩] at HTV
                  clear c1 c2 c3
                  go_wp2_with fail
                  go_round
                  case rel => exact ⟨m + 1, by omega, by go_num, by rw [HTV.out]⟩
                  case measure => simp [intOf]; omega
                · have t3 : decide (v.s < s1) = false := decide_eq_false c3
                  rw [if_neg (by rintro ⟨-, h | h⟩; exact c2 h; exact c3 h)] at HTV
                  clear c1 c2 c3
                  go_wp2_with fail
                  go_round
                  case rel => exact ⟨m + 1, by omega, by go_num, by rw [HTV.out]⟩
                  case measure => simp [intOf]; omega
            · have t1 : decide (q < v.s) = false := decide_eq_false c1
              rw [if_neg (fun h => c1 h.1)] at HTV
              clear c1
              go_wp2_with fail
              go_round
              case rel => exact ⟨m + 1, by omega, by go_num, by rw [HTV.out]⟩
              case measure => simp [intOf]; omega
          · obtain rfl : m = pvs.length := by omega
            have HT2 : Hid (nxtV q s0 ((pvs.take pvs.length).map vv) = nxtL q 0 ((l.take (i + 1)).map pv)) := by simp only [Hid]; rw [List.take_length, HTO.out]
            go_wp2_with fail
            go_round
            case rel => exact ⟨i + 1, by omega, by go_num, by rw [HT2.out]⟩
            case measure => simp [intOf]; omega
      · obtain rfl : i = l.length := by omega
        have hnx : nxtL q 0 ((l.take l.length).map pv) = (ss[k]?).getD 0 := by
          rw [List.take_length, ← HL.out, HQ.out]
          exact HNX.out k hk
        rw [hnx]
        by_cases hkl : k < ss.length
        · have hs0 : (ss[k]?).getD 0 = ss[k] := by rw [List.getElem?_eq_getElem hkl]; rfl
          rw [hs0]
          have hsr := HSR.out _ (List.getElem_mem hkl)
          have hlt2 := HLT.out k hkl
          obtain ⟨s, hs⟩ : ∃ s, s = ss[k] := ⟨_, rfl⟩
          rw [← hs] at hsr hlt2 ⊢
          obtain ⟨ao, co, es, rfl, hO⟩ := HO.out
          have hel : es.length ≤ 80 := by
            rw [hO.size]
            refine Nat.le_trans (chosenL_len _ _ _) ?_
            rw [List.length_take]; omega
          have hck : ss.take (k + 1) = ss.take k ++ [s] := by rw [List.take_succ_eq_append_getElem hkl, hs]
          have HCK := Lib.hid hck
          have HLK : Hid (lst ss (k + 1) = s) := by simp only [Hid]; rw [lst_succ ss k hkl, hs]
          have HLQ : Hid (q < s) := by simp only [Hid]; have := HQ.out; omega
          have HOE := Lib.hid hO
          have HF := Lib.hid (for_ok wr s a c l (HH.out wr HB.out) hl5 H16.out)
          have t1 : (s == 0) = false := by simp; omega
          have hs1 : 1 ≤ s ∧ s ≤ 1099511627776 := hsr
          have hqr2 : 0 ≤ q ∧ q ≤ 1099511627776 := hqr
          clear hO hck hs hs0 hnx hsr hlt2
          go_wp2_with fail
          refine HF.out.mono ?_; rintro e w3 ⟨a3, c3, cs, rfl, hrk, hdat, hc400, hmem, hb3⟩
          obtain ⟨D, hD⟩ : ∃ D, D = chp.forS L s := ⟨_, rfl⟩
          have HD := Lib.hid hD
          have HDAT := Lib.hid (show cs.map cvv = D by rw [hD, HL.out]; exact hdat)
          have hnz := new2 w3 (.cells #[.int .i64 0, .int .i64 0] 43) (.cells #[.int .i64 s, .slice none 0 0] 39)
          have hb5 := below_new2 w3 (.cells #[.int .i64 0, .int .i64 0] 43) (.cells #[.int .i64 s, .slice none 0 0] 39)
          obtain ⟨w5, hw5⟩ : ∃ w5 : World, w5 = (w3.alloc (.cells #[.int .i64 0, .int .i64 0] 43)).alloc (.cells #[.int .i64 s, .slice none 0 0] 39) := ⟨_, rfl⟩
          rw [← hw5] at hnz hb5
          obtain ⟨n0, n1, hsz5⟩ := hnz
          have HRK := Lib.hid (own_below hrk.row hb5)
          have HMEM := Lib.hid hmem
          obtain ⟨bb, hbb⟩ : ∃ bb, bb = w3.heap.size := ⟨_, rfl⟩
          have HBB := Lib.hid hbb
          have HBLO : Hid (wr.heap.size ≤ bb) := by simp only [Hid]; rw [hbb]; exact hb3.size
          have HST : Hid (Bst w.heap.size (bb + 1) bb s (0, 0, []) w5) := by
            rw [hbb]
            exact ⟨⟨none, 0, n1, World.ownsRow_nil _ _ _ _⟩, n0, by simp⟩
          have HB5 := Lib.hid (below_step hb3 hb5)
          have HW5 := Lib.hid hw5
          clear hrk hdat hmem hb3 HF hD hb5 hw5 n0 n1 hsz5 hbb
          go_wp2_with fail
          rw [← HW5.out, ← HBB.out]
          clear HW5 HBB
          have hws : Hid (w.heap.size ≤ wr.heap.size) := HB.out.size
          go_loopw [14] (fun j wi => ∃ m : Nat, m ≤ cs.length ∧ j = .int .i64 m ∧ Hid (Bst w.heap.size (bb + 1) bb s (((D.take m).filter (wonP nodes D)).foldl chp.stp (0, 0, [])) wi) ∧ Hid (Below wr.heap.size wr wi) ∧ Hid (wi.ownsRow wr.heap.size 47 5 (.slice a3 cs.length c3) cs.length (cs.flatMap ccells))) (fun j _ => cs.length - (intOf j).toNat)
          case atStart => exact ⟨0, Nat.zero_le _, rfl, HST, HB5, HRK⟩
          case round =>
            obtain ⟨wi, rfl⟩ : ∃ wi : World, wi = wr := ⟨_, rfl⟩
            obtain ⟨m, hm, rfl, HSI, HBI, HRI⟩ := hrel
            have hBw := below_step HB.out HBI.out
            have hRK : RowK wi wr.heap.size 47 a3 c3 cs := ⟨HRI.out, fun x hx => by
              obtain ⟨p, hp, hv⟩ := HMEM.out x hx
              exact ((HH.out wi hBw).good p hp).row.good _ hv⟩
            by_cases hmt : m < cs.length
            · have hDt := hDj HDAT.out
              have HDT := Lib.hid hDt
              have hmx := HMEM.out _ (List.getElem_mem hmt)
              have HX := Lib.hid (fun (wx : World) (hb : Below wi.heap.size wi wx) => RowK.cells (⟨own_below HRI.out hb, fun x hx => by
                obtain ⟨p, hp, hv⟩ := HMEM.out x hx
                exact ((HH.out wx (below_step hBw hb)).good p hp).row.good _ hv⟩ : RowK wx wr.heap.size 47 a3 c3 cs) hmt)
              have HY := Lib.hid (fun (wx : World) (hb : Below wi.heap.size wi wx) (j : Nat) (hj : j < cs.length) => RowK.cells (⟨own_below HRI.out hb, fun x hx => by
                obtain ⟨p, hp, hv⟩ := HMEM.out x hx
                exact ((HH.out wx (below_step hBw hb)).good p hp).row.good _ hv⟩ : RowK wx wr.heap.size 47 a3 c3 cs) hj)
              have hDm := hDt m hmt
              obtain ⟨x, hx⟩ : ∃ x, x = cs[m] := ⟨_, rfl⟩
              rw [← hx] at hmx HX hDm
              obtain ⟨xn, xv⟩ := x
              dsimp only at hmx HX
              have HMX := Lib.hid hmx
              have HDM := Lib.hid hDm
              have HBW := Lib.hid hBw
              have hcl : cs.length ≤ 400 := hc400
              clear hDt hmx hDm hx hRK hBw
              go_wp2_with fail
              go_loopw [15, 16] (fun n i wj => ∃ j : Nat, j ≤ cs.length ∧ i = .int .i64 j ∧ n = .int .i64 (((D.take j).filter (sameV (cvv (xn, xv)))).length : Nat) ∧ Hid (Below wi.heap.size wi wj)) (fun _ i _ => cs.length - (intOf i).toNat)
              case atStart => exact ⟨0, Nat.zero_le _, rfl, rfl, Below.refl _ _⟩
              case round =>
                obtain ⟨wj, rfl⟩ : ∃ wj : World, wj = wr := ⟨_, rfl⟩
                obtain ⟨j, hj', rfl, rfl, HBJ⟩ := hrel
                have hNl : ((D.take j).filter (sameV (cvv (xn, xv)))).length ≤ j := by
                  refine Nat.le_trans (List.length_filter_le _ _) ?_
                  rw [List.length_take]; omega
                by_cases hjt : j < cs.length
                · obtain ⟨g, rfl, hgz, hmx2, x0, x1, x2, x3, x4⟩ := HX.out wj HBJ.out
                  obtain ⟨g', e', -, -, y0, y1, y2, y3, y4⟩ := HY.out wj HBJ.out j hjt
                  simp only [Option.some.injEq, Addr.mk.injEq, and_true] at e'
                  subst e'
                  have hrdx : Rd wj xv := by
                    obtain ⟨p, hp, hv⟩ := HMX.out
                    exact ((HH.out wj (below_step HBW.out HBJ.out)).good p hp).row.good _ hv
                  have hrdy : Rd wj cs[j].2 := by
                    obtain ⟨p, hp, hv⟩ := HMEM.out _ (List.getElem_mem hjt)
                    exact ((HH.out wj (below_step HBW.out HBJ.out)).good p hp).row.good _ hv
                  have hfl : (D.take (j + 1)).filter (sameV (cvv (xn, xv))) = (D.take j).filter (sameV (cvv (xn, xv))) ++ if sameV (cvv (xn, xv)) (cvv cs[j]) then [cvv cs[j]] else [] := by
                    rw [HDT.out j hjt, List.filter_append]
                    congr 1
                    cases hh : sameV (cvv (xn, xv)) (cvv cs[j]) <;> simp [List.filter, hh]
                  obtain ⟨y, hy⟩ : ∃ y, y = cs[j] := ⟨_, rfl⟩
                  rw [← hy] at y0 y1 y2 y3 y4 hrdy hfl
                  obtain ⟨yn, yv⟩ := y
                  dsimp only at y0 y1 y2 y3 y4 hrdy
                  have hsv : sameV (cvv (xn, xv)) (cvv (yn, yv)) = ((yv.r == xv.r && yv.n == xv.n) && sameB yv.l xv.l) := rfl
                  rw [hsv] at hfl
                  have HCB := Lib.hid (bytes_any yv.l xv.l yv.a xv.a yv.c xv.c wj.drew (by have := hrdy.len; omega) (hrdy.lie.below (below_drewN (Below.refl _ wj) 1)) (hrdx.lie.below (below_drewN (Below.refl _ wj) 1)))
                  have hbq := fun w => eqBallot w yv.r yv.n xv.r xv.n
                  have HBd := Lib.hid (fun n => below_step HBJ.out (below_drewN (Below.refl _ wj) n))
                  have hgd : g < wj.drew.heap.size := hgz
                  obtain ⟨N, hN⟩ : ∃ N, N = ((D.take j).filter (sameV (cvv (xn, xv)))).length := ⟨_, rfl⟩
                  have hfl2 := congrArg List.length hfl
                  rw [List.length_append, ← hN] at hfl2
                  rw [← hN] at hNl ⊢
                  have HFL := Lib.hid hfl2
                  clear hrdx hrdy hy hsv hfl hfl2 hN
                  cases e2 : (yv.r == xv.r && yv.n == xv.n) with
                  | false =>
                    rw [e2] at hbq HFL
                    clear e2
                    go_wp2_with fail
                    go_quiet (fail)
                    go_wp2_with fail
                    go_roundw
                    case rel => exact ⟨j + 1, by omega, by go_num, by rw [HFL.out]; simp, HBd.out _⟩
                    case measure => simp [intOf]; omega
                  | true =>
                    rw [e2] at hbq HFL
                    clear e2
                    cases e3 : sameB yv.l xv.l with
                    | false =>
                      rw [e3] at HCB HFL
                      clear e3
                      go_wp2_with fail
                      go_still_tail 26, (by kernel_rfl)
                      change wpList _ _ _ _ _ wj.drew
                      go_wp2_with fail
                      refine HCB.out.mono ?_; rintro e w6 ⟨rfl, hb6⟩
                      have HB6 := Lib.hid (below_step (HBd.out 1) hb6)
                      clear hb6
                      go_wp2_with fail
                      go_roundw
                      case rel => exact ⟨j + 1, by omega, by go_num, by rw [HFL.out]; simp, HB6⟩
                      case measure => simp [intOf]; omega
                    | true =>
                      rw [e3] at HCB HFL
                      clear e3
                      go_wp2_with fail
                      go_still_tail 26, (by kernel_rfl)
                      change wpList _ _ _ _ _ wj.drew
                      go_wp2_with fail
                      refine HCB.out.mono ?_; rintro e w6 ⟨rfl, hb6⟩
                      have HB6 := Lib.hid (below_step (HBd.out 1) hb6)
                      clear hb6
                      go_wp2_with fail
                      go_roundw
                      case rel => exact ⟨j + 1, by omega, by go_num, by rw [HFL.out]; simp, HB6⟩
                      case measure => simp [intOf]; omega
                · obtain rfl : j = cs.length := by omega
                  have hDl : D.take cs.length = D := by rw [← HDAT.out]; exact List.take_of_length_le (by simp)
                  have hst : ((D.take (m + 1)).filter (wonP nodes D)).foldl chp.stp (0, 0, []) = if wonP nodes D (cvv (xn, xv)) then chp.stp (((D.take m).filter (wonP nodes D)).foldl chp.stp (0, 0, [])) (cvv (xn, xv)) else ((D.take m).filter (wonP nodes D)).foldl chp.stp (0, 0, []) := by
                    rw [HDM.out, List.filter_append]
                    cases hh : wonP nodes D (cvv (xn, xv)) <;> simp [List.filter, hh]
                  obtain ⟨st, hst0⟩ : ∃ st, st = ((D.take m).filter (wonP nodes D)).foldl chp.stp (0, 0, []) := ⟨_, rfl⟩
                  rw [← hst0] at hst HSI
                  rw [hDl] at hNl ⊢
                  have hwon : wonP nodes D (cvv (xn, xv)) = decide (nodes < 2 * (((D.filter (sameV (cvv (xn, xv)))).length : Nat) : Int)) := rfl
                  rw [hwon] at hst
                  obtain ⟨N, hN⟩ : ∃ N, N = (D.filter (sameV (cvv (xn, xv)))).length := ⟨_, rfl⟩
                  rw [← hN] at hNl hst ⊢
                  have hw2 : IntKind.i64.wrap (2 * (N : Int)) = 2 * (N : Int) := IntWalk.i64_in _ (by omega)
                  obtain ⟨br, bn, bd⟩ := st
                  have hstp : chp.stp (br, bn, bd) (cvv (xn, xv)) = if bal.lessB br bn xv.r xv.n then (xv.r, xv.n, xv.l) else (br, bn, bd) := rfl
                  rw [hstp] at hst
                  have HS0 := Lib.hid (fun (wx : World) (hb : Below wi.heap.size wi wx) => HSI.out.below hb)
                  have hNl2 : N ≤ 400 := by omega
                  have HBIJ := Lib.hid (fun (wx : World) (hb : Below wj.heap.size wj wx) => below_step HBI.out (below_step HBJ.out hb))
                  have HRIJ := Lib.hid (fun (wx : World) (hb : Below wj.heap.size wj wx) => own_below HRI.out (below_step HBJ.out hb))
                  have HSIJ := Lib.hid (fun (wx : World) (hb : Below wj.heap.size wj wx) => HSI.out.below (below_step HBJ.out hb))
                  clear hDl hst0 hN hwon hstp
                  by_cases c1 : nodes < 2 * (N : Int)
                  · rw [decide_eq_true c1, if_pos rfl] at hst
                    have t2 : decide (nodes < 2 * (N : Int)) = true := decide_eq_true c1
                    have HSTE := Lib.hid hst
                    obtain ⟨g, rfl, hgz, hmx2, x0, x1, x2, x3, x4⟩ := HX.out wj HBJ.out
                    obtain ⟨⟨ae, ce, he1, hbody⟩, hbest, hbdl⟩ := HS0.out wj HBJ.out
                    obtain ⟨p0, p1, f0, f1, pz⟩ := blk2 hbest
                    have HLE := Lib.hid (refLess_any br bn xv.r xv.n wj.drew)
                    have hgd : g < wj.drew.heap.size := hgz
                    have hcl9 : cs.length ≤ 9223372036854775807 := by omega
                    clear hst c1 he1 hbody hbest
                    go_wp2_with fail
                    go_still_tail 12, (by kernel_rfl)
                    change wpList _ _ _ _ _ wj.drew
                    go_wp2_with fail
                    cases hlb : bal.lessB br bn xv.r xv.n with
                    | false =>
                      rw [hlb] at HLE HSTE
                      clear hlb
                      refine HLE.out.mono ?_; rintro e w4 ⟨rfl, hb4⟩
                      have hb4j : Below wj.heap.size wj w4 := below_step (below_drewN (Below.refl _ wj) 1) hb4
                      have HB4 := Lib.hid (HBIJ.out w4 hb4j)
                      have HR4 := Lib.hid (HRIJ.out w4 hb4j)
                      have HS4 : Hid (Bst w.heap.size (bb + 1) bb s (((D.take (m + 1)).filter (wonP nodes D)).foldl chp.stp (0, 0, [])) w4) := by
                        simp only [Hid]
                        rw [HSTE.out]
                        exact HSIJ.out w4 hb4j
                      clear hb4 hb4j
                      go_wp2_with fail
                      go_roundw
                      case rel => exact ⟨m + 1, by omega, by go_num, HS4, HB4, HR4⟩
                      case measure => simp [intOf]; omega
                    | true =>
                      rw [hlb] at HLE HSTE
                      clear hlb
                      refine HLE.out.mono ?_; rintro e w4 ⟨rfl, hb4⟩
                      have hb4j : Below wj.heap.size wj w4 := below_step (below_drewN (Below.refl _ wj) 1) hb4
                      have HB4 := Lib.hid (HBIJ.out w4 hb4j)
                      have HR4 := Lib.hid (HRIJ.out w4 hb4j)
                      obtain ⟨⟨ae4, ce4, he4, -⟩, hbest4, -⟩ := HSIJ.out w4 hb4j
                      dsimp only at he4 hbest4
                      have hgz4 : g < w4.heap.size := (own_from HR4.out g rfl).2
                      have z4 := cell_step x4 hb4j
                      have z2 := cell_step x2 hb4j
                      have z3 := cell_step x3 hb4j
                      obtain ⟨q0, q1, fq0, fq1, qz⟩ := blk2 hbest4
                      have hgb : g ≠ bb := own_ne HR4.out hbest4 (by decide) g rfl
                      have hge : g ≠ bb + 1 := own_ne HR4.out he4 (by decide) g rfl
                      obtain ⟨w5, hw5⟩ : ∃ w5, w5 = put2 w4 bb (.int .i64 xv.r) (.int .i64 xv.n) := ⟨_, rfl⟩
                      have HW5 := Lib.hid hw5
                      have HE4 := Lib.hid he4
                      have HBT4 := Lib.hid hbest4
                      have hgb' : (g == bb) = false := by simpa using hgb
                      clear hb4 hb4j x0 x1 x2 x3 x4 p0 p1 f0 f1 pz hbest4 he4 hw5 HCK HLK HLQ HLE
                      go_upto_region 32 with fail
                      rw [show (w4.setCell ⟨bb, 0, none⟩ (.int .i64 xv.r)).setCell ⟨bb, 1, none⟩ (.int .i64 xv.n) = w5 from HW5.out.symm]
                      have hcell5 : ∀ o, w5.cell? ⟨g, o, none⟩ = w4.cell? ⟨g, o, none⟩ := fun o => World.cell?_of_block (a := ⟨g, o, none⟩) (by rw [HW5.out]; exact put2_ne hgb)
                      have y4 : w5.cell? ⟨g, m * 5 + 4, none⟩ = some (.slice xv.a xv.l.length xv.c) := (hcell5 _).trans z4
                      have hgz5 : g < w5.heap.size := by rw [HW5.out, put2_size]; exact hgz4
                      have he5 : w5.heap[bb + 1]? = some (.cells #[.int .i64 s, .slice ae4 bd.length ce4] 39 (0, 0)) := by rw [HW5.out]; exact (put2_ne (by omega)).trans HE4.out
                      have hbt5 : w5.heap[bb]? = some (.cells #[.int .i64 xv.r, .int .i64 xv.n] 43 (0, 0)) := by rw [HW5.out]; exact put2_at HBT4.out
                      have hb5 : Below wr.heap.size wr w5 := by rw [HW5.out]; exact put2_below HB4.out HBLO.out _ _
                      have hr5 : w5.ownsRow wr.heap.size 47 5 (.slice (some ⟨g, 0, none⟩) cs.length c3) cs.length (cs.flatMap ccells) := own_kept HR4.out (fun g' hg' => by
                        simp only [Option.some.injEq, Addr.mk.injEq, and_true] at hg'
                        subst hg'
                        rw [HW5.out]; exact put2_ne hgb)
                      have hrd5 : Rd w5 xv := by
                        obtain ⟨p, hp, hv⟩ := HMX.out
                        exact ((HH.out w5 (below_step HB.out hb5)).good p hp).row.good _ hv
                      have HNIL := Lib.hid hrd5.nil
                      have HLIE := Lib.hid hrd5.lie
                      have hxl := hrd5.len
                      have HE5 := Lib.hid he5
                      have HBT5 := Lib.hid hbt5
                      have HB5 := Lib.hid hb5
                      have HR5 := Lib.hid hr5
                      have hebz := (kit.blk he5).2.2
                      have hbe : bb + 1 ≠ bb := by omega
                      clear hcell5 he5 hbt5 hb5 hr5 hrd5 z2 z3 z4 q0 q1 fq0 fq1 qz
                      go_wp2_with (at_builtin; refine wpl_append rfl _ _ 37 rfl w5.heap.size 5 i0 (.int .u8 0) 1 1 Try.underlying37 hi hz0 hz1 hz2 rfl (by decide) _ 0 [] rfl (World.ownsRow_nil _ _ _ _) xv.a xv.l.length xv.c (bcells xv.l) rfl HNIL.out (by rw [bcells_len]; simp) HLIE.out (bcells_one _) (by unfold maxLen; omega) (by omega) (Nat.le_refl _) ?_)
                      intro v6 w6 hown6 hgr6
                      try simp only [Nat.zero_add, List.nil_append] at hown6
                      obtain ⟨a6, c6, rfl⟩ := own_shape hown6
                      have hb6 : Below w5.heap.size w5 w6 := ⟨hgr6.os, hgr6.tape, hgr6.output, hgr6.size, fun j hj => hgr6.block j hj (by simp [Value.ownBlock])⟩
                      have he6 := hp_step HE5.out hb6
                      obtain ⟨w7, hw7⟩ : ∃ w7, w7 = w6.setCell ⟨bb + 1, 1, none⟩ (.slice a6 xv.l.length c6) := ⟨_, rfl⟩
                      have hb7 : Below wr.heap.size wr w7 := by rw [hw7]; exact (below_step HB5.out hb6).setCell (p := ⟨bb + 1, 1, none⟩) (by have := HBLO.out; show wr.heap.size ≤ bb + 1; omega) _
                      have hr7 : w7.ownsRow wr.heap.size 47 5 (.slice (some ⟨g, 0, none⟩) cs.length c3) cs.length (cs.flatMap ccells) := own_kept (own_below HR5.out hb6) (fun g' hg' => by
                        simp only [Option.some.injEq, Addr.mk.injEq, and_true] at hg'
                        subst hg'
                        rw [hw7]; exact hp_set_ne (a := ⟨bb + 1, 1, none⟩) hge)
                      have hs7 : Bst w.heap.size (bb + 1) bb s (((D.take (m + 1)).filter (wonP nodes D)).foldl chp.stp (0, 0, [])) w7 := by
                        rw [HSTE.out]
                        refine ⟨⟨a6, c6, by rw [hw7]; exact hp_set he6 1 _, ?_⟩, ?_, hxl⟩
                        · rw [hw7]
                          exact own_kept (own_mono hown6 (by have := HB5.out.size; have := hws.out; omega)) (fun g' hg' => hp_set_ne (by have := (own_from hown6 g' hg').1; show g' ≠ bb + 1; omega))
                        · rw [hw7]
                          exact (hp_set_ne (a := ⟨bb + 1, 1, none⟩) (by show bb ≠ bb + 1; omega)).trans (hp_step HBT5.out hb6)
                      have HB7 := Lib.hid hb7
                      have HR7 := Lib.hid hr7
                      have HS7 := Lib.hid hs7
                      have HW7 := Lib.hid hw7
                      obtain ⟨u0, u1, fu0, fu1, uz⟩ := blk2 he6
                      clear hown6 hgr6 hb6 he6 hw7 hb7 hr7 hs7
                      go_upto_region 23 with fail
                      rw [← HW7.out]
                      clear u0 u1 fu0 fu1 uz
                      go_wp2_with fail
                      go_roundw
                      case rel => exact ⟨m + 1, by omega, by go_num, HS7, HB7, HR7⟩
                      case measure => simp [intOf]; omega
                  · rw [decide_eq_false c1, if_neg (by simp)] at hst
                    have t2 : decide (nodes < 2 * (N : Int)) = false := decide_eq_false c1
                    have HSTE := Lib.hid hst
                    clear hst c1
                    have HS4 : Hid (∀ n, Bst w.heap.size (bb + 1) bb s (((D.take (m + 1)).filter (wonP nodes D)).foldl chp.stp (0, 0, [])) (wj.drewN n)) := fun n => by
                      rw [HSTE.out]
                      exact HSIJ.out _ (below_drewN (Below.refl _ wj) n)
                    have HB4 := Lib.hid (fun n => HBIJ.out _ (below_drewN (Below.refl _ wj) n))
                    have HR4 := Lib.hid (fun n => HRIJ.out _ (below_drewN (Below.refl _ wj) n))
                    go_wp2_with fail
                    go_quiet (fail)
                    go_wp2_with fail
                    go_roundw
                    case rel => exact ⟨m + 1, by omega, by go_num, HS4.out _, HB4.out _, HR4.out _⟩
                    case measure => simp [intOf]; omega
            · obtain rfl : m = cs.length := by omega
              have hDl : D.take cs.length = D := by rw [← HDAT.out]; exact List.take_of_length_le (by simp)
              have hfold : (wonS nodes L s).foldl chp.stp (0, 0, []) = ((D.take cs.length).filter (wonP nodes D)).foldl chp.stp (0, 0, []) := by rw [hDl, HD.out]; rfl
              obtain ⟨st, hst0⟩ : ∃ st, st = ((D.take cs.length).filter (wonP nodes D)).foldl chp.stp (0, 0, []) := ⟨_, rfl⟩
              rw [← hst0] at HSI hfold
              have hNone := chS_none hRT.out hfold
              have hSome := chS_some hRT.out hfold
              have hsnc := chosenL_snoc nodes L (ss.take k) s
              rw [← HCK.out] at hsnc
              obtain ⟨br, bn, bd⟩ := st
              dsimp only at hNone hSome
              obtain ⟨⟨ae, ce, he1, hbody⟩, hbest, hbdl⟩ := HSI.out
              dsimp only at he1 hbody hbest hbdl
              obtain ⟨p0, p1, f0, f1, pz⟩ := blk2 he1
              obtain ⟨q0, q1, fq0, fq1, qz⟩ := blk2 hbest
              have hO := HOE.out.below HBI.out
              have hsz := hBw.size
              have HO5 := Lib.hid hO
              have HBODY := Lib.hid hbody
              have HBW := Lib.hid hBw
              have hbq := fun w => neBallotZ w br bn
              clear hDl hfold hst0 he1 hbody hbest hO hRK hBw
              by_cases hz : br = 0 ∧ bn = 0
              · have hCL : Hid (chosenL nodes L (ss.take (k + 1)) = chosenL nodes L (ss.take k)) := by
                  simp only [Hid]
                  rw [hsnc, hNone hz]
                  simp
                rw [show (!(br == 0 && bn == 0)) = false from by simp [hz]] at hbq
                have HO9 : Hid (OutE w wi ao co es (chosenL nodes L (ss.take (k + 1)))) := by
                  simp only [Hid]; rw [hCL.out]; exact HO5.out
                clear hNone hSome hsnc hz
                go_wp2_with fail
                go_roundw
                case rel => exact ⟨k + 1, by omega, by rw [HLK.out], ⟨ao, co, es, rfl, HO9.out⟩, HBW⟩
                case measure => have := HLQ.out; simp [intOf]; omega
              · have hCL : Hid (chosenL nodes L (ss.take (k + 1)) = chosenL nodes L (ss.take k) ++ [(s, bd)]) := by
                  simp only [Hid]
                  rw [hsnc, hSome hz]
                  rfl
                rw [show (!(br == 0 && bn == 0)) = true from by simp; omega] at hbq
                clear hNone hSome hsnc hz
                go_wp2_with (at_builtin; refine wpl_append rfl (.tmp 142) (.tmp 144) 24 rfl w.heap.size 39 j0 _ 2 32 Try.underlying24 hj hy0 hy1 hy2 rfl (by decide) _ es.length (es.flatMap Et.cells) rfl (HO5.out.own.row.alloc _) (some ⟨wi.heap.size, 0, none⟩) 1 1 [.int .i64 s, .slice ae bd.length ce] rfl (by simp) rfl (lie_new2 _ _ _ _) (by simp [Value.oneCell']) (by unfold maxLen; omega) (by omega) (by rw [size_new]; omega) ?_)
                intro v8 w8 hown hgr
                obtain ⟨a8, c8, rfl, hO8⟩ := OutE.step HO5.out HBODY.out hbdl hgr hown
                rw [← hCL.out] at hO8
                have HB8 : Hid (Below w.heap.size w w8) := (below_step HBW.out (below_new1 wi _)).grown hgr (by rw [size_new]; omega) (fun j hj => (HO5.out.own.row.lt j hj).1)
                have HO8 := Lib.hid hO8
                clear hown hgr hO8
                go_wp2_with fail
                go_roundw
                case rel => exact ⟨k + 1, by omega, by rw [HLK.out], ⟨a8, c8, _, rfl, HO8.out⟩, HB8⟩
                case measure => have := HLQ.out; simp [intOf]; omega
        · obtain rfl : k = ss.length := by omega
          have hs0 : (ss[ss.length]?).getD 0 = 0 := by rw [List.getElem?_eq_none (Nat.le_refl _)]; rfl
          rw [hs0]
          obtain ⟨ao, co, es, rfl, hO⟩ := HO.out
          rw [List.take_length] at hO
          have HOE := Lib.hid hO
          clear hO HO hnx hs0
          go_wp2_with fail
          go_ret
          exact ⟨ao, co, es, rfl, HOE.out, HB.out⟩

/-- What a Chosen answers. -/
def ChosenR (w : World) (nodes : Int) (L : List chp.Pr) (e : Ending) (w' : World) : Prop :=
  ∃ (a' : Option Addr) (c' : Nat) (es : List Et), e = .returned (.slice a' es.length c') ∧ OutE w w' a' c' es (chosenA nodes L) ∧ Below w.heap.size w w'
theorem rchosen_ok (w : World) (nodes : Int) (a : Option Addr) (c : Nat) (l : List Pt) (h : RowP w a l) :
    Calls Try.prog 11 #[.int .i64 nodes, .slice a l.length c] w (ChosenR w nodes (l.map pv)) := by
  cases hr : rightB nodes (l.map pv) with
  | false =>
    refine (rchosen_form w nodes a c l h hr).mono ?_
    rintro e w' ⟨h1, h2⟩
    exact ⟨none, 0, [], h1, by unfold chosenA; rw [if_neg (right_no hr)]; exact outE_nil _ _, h2⟩
  | true =>
    refine (rchosen_go w nodes a c l h hr).mono ?_
    rintro e w' ⟨a', c', es, h1, h2, h3⟩
    exact ⟨a', c', es, h1, by unfold chosenA; rw [if_pos (right_of hr)]; exact h2, h3⟩
end Go.Proofs.Ytodoncmielfbeaa.chc
