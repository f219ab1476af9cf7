/-
  ClockOrder: names stand by the time at which they are due; each that is set is there, once.
-/
import Derived.Test.YtejjnhgiijhglaaClkR
import Derived.Test.YtejjnhgiijhglaaClkNm
import Derived.Test.YtejjnhgiijhglaaChecked
import Derived.Test.YtejjnhgiijhglaaRows
namespace Go.Proofs.Ytejjnhgiijhglaa.clockOrder
open Go.ChangeShapes Go.WideShapes Go.ChangeAt Go.RowKit Go.Joins Go.ChangeMaps
open Go.Proofs.Ytejjnhgiijhglaa.kit Go.Proofs.Ytejjnhgiijhglaa.mapkit Go.Proofs.Ytejjnhgiijhglaa.own Go.Proofs.Ytejjnhgiijhglaa.heapp Go.Proofs.Ytejjnhgiijhglaa.clkp Go.Proofs.Ytejjnhgiijhglaa.clks Go.Proofs.Ytejjnhgiijhglaa.clkt Go.Proofs.Ytejjnhgiijhglaa.clkr Go.Proofs.Ytejjnhgiijhglaa.clknm
set_option linter.unusedVariables false
set_option linter.unusedSimpArgs false
set_option maxHeartbeats 1000000
set_option maxRecDepth 100000

/-- When the k'th timer is due. -/
def dAt (A : CkS) (k : Nat) : Int := ((A.s[k]?).map T3.due).getD 0
def nms (A : CkS) : List ByteArray := A.s.map T3.nm
theorem nms_len (A : CkS) : (nms A).length = A.s.length := List.length_map _
theorem names_nms (A : CkS) : names A.s = (nms A).map Value.string := by unfold names nms; rw [List.map_map]; rfl
theorem dAt_at {A : CkS} {k : Nat} (hk : k < A.s.length) : dAt A k = A.s[k].due := by unfold dAt; rw [List.getElem?_eq_getElem hk]; rfl
theorem nms_get {A : CkS} {k : Nat} (hk : k < (nms A).length) (hk' : k < A.s.length) : (nms A)[k] = A.s[k].nm := List.getElem_map _
theorem nm_due {A : CkS} (ho : Ok A) (hf : Fut A) {k : Nat} (hk : k < (nms A).length) : dueS A (nms A)[k] = some (dAt A k) ∧ A.now < dAt A k := by
  have hk' : k < A.s.length := by rwa [nms_len] at hk
  rw [nms_get hk hk', dAt_at hk']
  exact ⟨dues_find ho (List.getElem_mem hk'), hf _ (List.getElem_mem hk')⟩
theorem nm_mon {A : CkS} (ho : Ok A) {i j : Nat} (hij : i < j) (hj : j < (nms A).length) : dAt A i ≤ dAt A j := by
  rw [nms_len] at hj
  rw [dAt_at (by omega), dAt_at hj]
  have := List.pairwise_iff_getElem.1 ho.srt i j (by omega) hj hij
  unfold lt3 at this
  omega
theorem nm_ne {A : CkS} (ho : Ok A) {i j : Nat} (hij : i < j) (hi : i < (nms A).length) (hj : j < (nms A).length) : (nms A)[i] ≠ (nms A)[j] := by
  have h1 := hi; have h2 := hj
  rw [nms_len] at h1 h2
  rw [nms_get hi h1, nms_get hj h2]
  exact List.pairwise_iff_getElem.1 ho.nod i j h1 h2 hij
theorem nm_siz {A : CkS} (ho : Ok A) {k : Nat} (hk : k < (nms A).length) : (nms A)[k].size ≤ maxLen := by
  have h1 := hk
  rw [nms_len] at h1
  rw [nms_get hk h1]
  unfold maxLen
  have := (ho.siz _ (List.getElem_mem h1)).2
  omega
def hasN (l : List ByteArray) (n : ByteArray) : Bool := l.any (fun x => decide (x = n))
theorem hasN_snoc (l : List ByteArray) (n : ByteArray) (k : Nat) (hk : k < l.length) : hasN (l.take (k + 1)) n = (hasN (l.take k) n || decide (l[k] = n)) := by
  unfold hasN
  rw [List.take_succ_eq_append_getElem hk, List.any_append]
  simp
theorem due_some {A : CkS} (ho : Ok A) (n : ByteArray) : (dueS A n).isSome = hasN (nms A) n := by
  have e : hasN (nms A) n = has A.s n := by unfold hasN nms has; rw [List.any_map]; rfl
  rw [e]
  cases h : has A.s n with
  | false => rw [dues_none h]; rfl
  | true =>
    obtain ⟨t, ht, e⟩ := has_iff.1 h
    have := dues_find ho ht
    rw [e] at this
    rw [this]; rfl

theorem order_ok (w : World) (a : Option Addr) (l : List OpC) (cap : Nat) (hl : l.length ≤ 4398046511103) (hat : RowsAt w a 3 (l.map ocells)) (hok : ∀ k (hk : k < l.length), (l[k]).ok) :
    Calls Try.prog 5 #[.slice a l.length cap] w fun e w' => e = .returned (.bool true) ∧ Below w.heap.size w w' := by
  have HRAN := Lib.hid (ran_ok w a l cap hl hat hok)
  have hG := good_st l good_start
  rw [Nat.zero_add] at hG
  obtain ⟨A, hA⟩ : ∃ A, A = stC clkp.start l := ⟨_, rfl⟩
  rw [← hA] at HRAN hG
  have HR := Lib.hid (fun (wr : World) (hb : Below w.heap.size w wr) k hk => row_op (hat.below hb) k hk)
  have HOKO := Lib.hid hok
  have HF := Lib.hid hG.fut
  clear hat hok hA hG
  go_enter Try.func5, Try.ntmps5
  go_wp2_with fail
  refine HRAN.out.mono ?_; rintro e w1 ⟨cb, mb, rfl, h1, hb1⟩
  have H1 := Lib.hid h1
  have HB1 := Lib.hid hb1
  clear h1 hb1 HRAN
  go_wp2_with fail
  refine (awake_ok w1).mono ?_; rintro e w2 ⟨rfl, hb2⟩
  have H2 := Lib.hid (H1.out.below hb2)
  have HB2 := Lib.hid (below_step HB1.out hb2)
  clear hb2 H1 HB1
  go_wp2_with fail
  refine (names_ok w2 _ cb mb A H2.out).mono ?_; rintro e w3 ⟨ga, gc, rfl, hrow, hb3⟩
  have h3 := H2.out.below hb3
  have hokA := h3.ok
  have HDU := Lib.hid (fun k hk => nm_due hokA HF.out (k := k) hk)
  have HMO := Lib.hid (fun i j h1 h2 => nm_mon hokA (i := i) (j := j) h1 h2)
  have HNE : Hid (∀ i j (hi : i < (nms A).length) (hj : j < (nms A).length), i < j → (nms A)[i] ≠ (nms A)[j]) := fun i j h1 h2 h3 => nm_ne hokA h3 h1 h2
  have HSZ := Lib.hid (fun k hk => nm_siz hokA (k := k) hk)
  have HSO := Lib.hid (fun n => due_some hokA n)
  have hl64 : (nms A).length ≤ 64 := by rw [nms_len]; exact hokA.len
  have H3 := Lib.hid h3
  have HB3 := Lib.hid (below_step HB2.out hb3)
  rw [names_nms, ← nms_len] at hrow
  have HROW := Lib.hid hrow
  rw [← nms_len]
  obtain ⟨ns, hns⟩ : ∃ x, x = nms A := ⟨_, rfl⟩
  rw [← hns] at HDU HMO HNE HSZ HSO hl64 HROW ⊢
  clear hb3 h3 hokA hrow hns H2 HB2 HF
  go_wp2_with fail
  refine (now_ok w3 _ cb mb A H3.out).mono ?_; rintro e w4 ⟨rfl, rfl⟩
  have HNOW := Lib.hid (fun (wz : World) (hz : Below w3.heap.size w3 wz) => now_ok wz _ cb mb A (H3.out.below hz))
  obtain ⟨nw, hnw⟩ : ∃ x, x = A.now := ⟨_, rfl⟩
  rw [← hnw] at HDU HNOW ⊢
  clear hnw
  go_wp2_with fail
  go_loopw [5, 6] (fun lv iv wr => ∃ (k : Nat) (L : Int), k ≤ ns.length ∧ iv = .int .i64 k ∧ lv = .int .i64 L ∧ Hid (k < ns.length → L ≤ dAt A k) ∧ Hid (Below w3.heap.size w3 wr)) (fun _ iv _ => ns.length - (intOf iv).toNat)
  case atStart => exact ⟨0, nw, Nat.zero_le _, rfl, rfl, (fun h => by have := (HDU.out 0 h).2; omega), Below.refl _ _⟩
  case round =>
    obtain ⟨k, L, hk, rfl, rfl, HL, HX⟩ := hrel
    by_cases hkl : k < ns.length
    · obtain ⟨g6, rfl⟩ := own_ptr HROW.out (by omega)
      have x0 := cell_step (str_cell HROW.out hkl) HX.out
      have hgz : g6 < wr.heap.size := Nat.lt_of_lt_of_le (own_from HROW.out g6 rfl).2 HX.out.size
      have hdu := due_ok wr _ cb mb A ns[k] (H3.out.below HX.out) (HSZ.out k hkl)
      obtain ⟨hd1, hd2⟩ := HDU.out k hkl
      rw [hd1] at hdu
      simp only [Option.getD_some, Option.isSome_some] at hdu
      have hd3 := HL.out hkl
      have HNX : Hid (k + 1 < ns.length → dAt A k ≤ dAt A (k + 1)) := fun h => HMO.out k (k + 1) (by omega) h
      have HNEK : Hid (∀ j (hj : j < k), ns[j] ≠ ns[k]) := fun j hj => HNE.out j k (by omega) hkl hj
      obtain ⟨x, hx⟩ : ∃ x, x = ns[k] := ⟨_, rfl⟩
      have HXC : Hid (w3.cell? ⟨g6, k, none⟩ = some (.string x)) := by rw [Hid, hx]; exact str_cell HROW.out hkl
      have HGZ := Lib.hid (own_from HROW.out g6 rfl).2
      rw [← hx] at x0 hdu HNEK
      obtain ⟨d, hd⟩ : ∃ d, d = dAt A k := ⟨_, rfl⟩
      rw [← hd] at hdu hd2 hd3 HNX
      have HDUE := Lib.hid hdu
      have g1 : decide (d < L) = false := decide_eq_false (by omega)
      have g2 : decide (d ≤ nw) = false := decide_eq_false (by omega)
      have g3 : decide ((64 : Int) < (ns.length : Int)) = false := decide_eq_false (by omega)
      have g4 : decide (64 < ns.length) = false := decide_eq_false (by omega)
      clear hx hd hdu hd1 hd2 hd3
      go_wp2_with fail
      refine HDUE.out.mono ?_; rintro e w5 ⟨rfl, rfl⟩
      go_wp2_with fail
      refine (HNOW.out wr HX.out).mono ?_; rintro e w6 ⟨rfl, rfl⟩
      go_wp2_with fail
      obtain ⟨wo, hwo⟩ : ∃ wo : World, wo = wr := ⟨_, rfl⟩
      subst hwo
      go_loopw [9] (fun jv wx => ∃ j : Nat, j ≤ k ∧ jv = .int .i64 j ∧ Hid (Below w3.heap.size w3 wx)) (fun jv _ => k - (intOf jv).toNat)
      case atStart => exact ⟨0, Nat.zero_le _, rfl, HX⟩
      case round =>
        obtain ⟨j, hj, rfl, HY⟩ := hrel
        by_cases hjk : j < k
        · have hjn : j < ns.length := by omega
          have y0 := cell_step (str_cell HROW.out hjn) HY.out
          have x1 := cell_step HXC.out HY.out
          have hgy : g6 < wr.heap.size := Nat.lt_of_lt_of_le HGZ.out HY.out.size
          have hne := HNEK.out j hjk
          obtain ⟨y, hy⟩ : ∃ y, y = ns[j] := ⟨_, rfl⟩
          rw [← hy] at y0 hne
          have heq : (y.toList == x.toList) = false := by rw [eqN]; exact decide_eq_false hne
          clear hy hne
          go_wp2_with fail
          go_quiet (fail)
          go_wp2_with fail
          go_roundw
          case rel => exact ⟨j + 1, by omega, by go_num, below_drewN HY.out _⟩
          case measure => simp [intOf]; omega
        · obtain rfl : j = k := by omega
          go_wp2_with fail
          go_roundw
          case rel => exact ⟨j + 1, d, by omega, by go_num, rfl, HNX.out, HY⟩
          case measure => simp [intOf]; omega
    · obtain rfl : k = ns.length := by omega
      clear HL hk
      obtain ⟨wa, hwa⟩ : ∃ wa : World, wa = wr := ⟨_, rfl⟩
      subst hwa
      go_wp2_with fail
      go_loopw [10] (fun iv wx => ∃ (j : Nat), j ≤ l.length ∧ iv = .int .i64 j ∧ Hid (Below w3.heap.size w3 wx)) (fun iv _ => l.length - (intOf iv).toNat)
      case atStart => exact ⟨0, Nat.zero_le _, rfl, HX⟩
      case round =>
        obtain ⟨j, hj, rfl, HY⟩ := hrel
        have HBY := Lib.hid (below_step HB3.out HY.out)
        by_cases hjl : j < l.length
        · obtain ⟨g, off, rfl, hgz, r0, r1, r2⟩ := HR.out wr HBY.out j hjl
          have hns := HOKO.out j hjl
          obtain ⟨n, hn⟩ : ∃ n, n = l[j].nm := ⟨_, rfl⟩
          have hn2 : n.size ≤ maxLen := by rw [hn]; exact hns
          rw [← hn] at r1
          have hdu := due_ok wr _ cb mb A n (H3.out.below HY.out) hn2
          have HR1 := Lib.hid (And.intro hgz r1)
          rw [HSO.out n] at hdu
          obtain ⟨dv, hdv⟩ : ∃ x, x = (dueS A n).getD 0 := ⟨_, rfl⟩
          obtain ⟨bv, hbv⟩ : ∃ x, x = hasN ns n := ⟨_, rfl⟩
          rw [← hdv, ← hbv] at hdu
          have HDUE := Lib.hid hdu
          have HBV := Lib.hid hbv
          clear hn hns hdu hdv hbv r0 r2
          go_wp2_with fail
          refine HDUE.out.mono ?_; rintro e w5 ⟨rfl, rfl⟩
          go_wp2_with fail
          obtain ⟨wb, hwb⟩ : ∃ wb : World, wb = wr := ⟨_, rfl⟩
          subst hwb
          go_loopw [13, 14] (fun tv kv wy => ∃ k : Nat, k ≤ ns.length ∧ kv = .int .i64 k ∧ tv = .bool (hasN (ns.take k) n) ∧ Hid (Below w3.heap.size w3 wy) ∧ Hid (Below wb.heap.size wb wy)) (fun _ kv _ => ns.length - (intOf kv).toNat)
          case atStart => exact ⟨0, Nat.zero_le _, rfl, rfl, HY, Below.refl _ _⟩
          case round =>
            obtain ⟨k, hk, rfl, rfl, HZ, HZX⟩ := hrel
            by_cases hkl : k < ns.length
            · obtain ⟨g6, rfl⟩ := own_ptr HROW.out (by omega)
              have x0 := cell_step (str_cell HROW.out hkl) HZ.out
              have hgz6 : g6 < wr.heap.size := Nat.lt_of_lt_of_le (own_from HROW.out g6 rfl).2 HZ.out.size
              have r1y := cell_step HR1.out.2 HZX.out
              have hgzy : g < wr.heap.size := Nat.lt_of_lt_of_le HR1.out.1 HZX.out.size
              have HHS := Lib.hid (hasN_snoc ns n k hkl)
              obtain ⟨x, hx⟩ : ∃ x, x = ns[k] := ⟨_, rfl⟩
              rw [← hx] at x0 HHS
              have heq : (x.toList == n.toList) = decide (x = n) := eqN x n
              obtain ⟨q, hq⟩ : ∃ q, q = decide (x = n) := ⟨_, rfl⟩
              rw [← hq] at heq HHS
              obtain ⟨tv, htv⟩ : ∃ t, t = hasN (ns.take k) n := ⟨_, rfl⟩
              rw [← htv] at HHS ⊢
              clear hx hq htv
              cases tv with
              | true =>
                go_wp2_with fail
                go_quiet (fail)
                go_wp2_with fail
                go_roundw
                case rel => exact ⟨k + 1, by omega, by go_num, by rw [HHS.out]; rfl, below_drewN HZ.out _, below_drewN HZX.out _⟩
                case measure => simp [intOf]; omega
              | false =>
                go_wp2_with fail
                go_quiet (fail)
                go_wp2_with fail
                go_roundw
                case rel => exact ⟨k + 1, by omega, by go_num, by rw [HHS.out, Bool.false_or], below_drewN HZ.out _, below_drewN HZX.out _⟩
                case measure => simp [intOf]; omega
            · obtain rfl : k = ns.length := by omega
              rw [List.take_length, ← HBV.out]
              clear hk
              cases bv
              all_goals
                go_wp2_with fail
                go_roundw
                case rel => exact ⟨j + 1, by omega, by go_num, HZ⟩
                case measure => simp [intOf]; omega
        · obtain rfl : j = l.length := by omega
          go_wp2_with fail
          go_ret
          exact ⟨rfl, HBY.out⟩

theorem lawWalk {H : Type} (enc : TypeId × Value → H) : LawWalk enc Try.prog 5 Try.f5 (fun _ => True) := by
  intro W base args ds p hval hA hsz _
  rw [Try.params5] at hA hval hsz
  obtain ⟨v0, vs0, d0, ds0, p0, q0, hargs, rfl, rfl, h0, r0⟩ := trodAll_cons hA
  obtain ⟨rfl, rfl, rfl⟩ := trodAll_nil r0
  obtain rfl : args = #[v0] := Array.toList_inj.1 hargs
  obtain ⟨a, l, cap, es, sp, rfl, hlc, hcm, hn, hat, hd, hel, hsp, hgood⟩ := open_slice_gen 3 ocells (fun o _ => o.ok) Try.underlying22 (by kernel_rfl) (by omega) (fun n cs y _ h => elem_op n cs y h) (hval 0 22 v0 rfl rfl) h0
  refine order_ok W a l cap ?_ hat (fun k hk => hgood k hk (by omega))
  rcases hd with ⟨_, rfl, _, _⟩ | rfl
  · exact Nat.zero_le _
  · have := many_c (j := 0) hsz rfl rfl
    omega

theorem own : ownKnob Try.prog.godebug = none := by kernel_rfl
theorem laidOut : laidOutB Try.prog = true := by kernel_rfl

set_option maxRecDepth 100000 in
theorem lifted (os : Os) (started : os.Started) (H : Type) (enc : TypeId × Value → H) :
    ReturnsInHanded {} Try.checked os 5 .any (Rows.clockOrderSpec.pre6 enc Try.prog Try.f5 Rows.clockOrderRow.domain false) (Rows.clockOrderSpec.post enc Try.prog Try.f5 false true false false) := by
  refine returnsInHanded_of_change_sized (C := Try.checked) own started (by kernel_rfl) Try.func5
    (ChangeSpec.witness6 (enc := enc) (C := Try.checked) false ⟨#[], #[.slice none 0 0], []⟩ 8 (by kernel_rfl) (by kernel_rfl) (by kernel_rfl) (by kernel_rfl)) ?_
  intro W base args ds gs before hval hW hcnd hsz _
  exact law_post (C := Try.checked) laidOut (fun ds h => by match ds, h with | [_], _ => rfl) 4 rfl Try.underlying4 rfl (by kernel_rfl) hval hW hsz trivial (lawWalk enc)

theorem proved : Rows.ClockOrderSaid :=
  OpenClaim.holds_of_wide 5 Try.f5 rfl rfl rfl rfl rfl rfl rfl ⟨rfl, rfl, rfl, rfl, rfl⟩ rfl rfl rfl rfl rfl (by kernel_rfl) Try.func5 (by kernel_rfl)
    (of_decide_eq_true (by kernel_rfl)) (by unfold Func.isWrapper; first | (rw [if_pos (by decide +kernel)]; kernel_rfl) | (rw [if_neg (by decide +kernel)]; exact ⟨rfl, rfl⟩))
    (fun os started H enc _ => lifted os started H enc)
#print axioms proved
end Go.Proofs.Ytejjnhgiijhglaa.clockOrder
