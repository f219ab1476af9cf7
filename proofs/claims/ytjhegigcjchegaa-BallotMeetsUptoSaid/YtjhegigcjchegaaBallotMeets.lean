/-
  BallotMeets: for every number of nodes and every two lists of numbers the law returns true, and each argument reads as it did.
  Condition: the arguments together hold at most 1048576 values (the law makes a list as long as both).
-/
import Derived.Test.YtjhegigcjchegaaRows
import Derived.Test.YtjhegigcjchegaaCount
namespace Go.Proofs.Ytjhegigcjchegaa.ballotMeets
open Go.ChangeShapes Go.WideShapes Go.ChangeAt Go.RowKit Go.Joins
open Go.Proofs.Ytjhegigcjchegaa.kit Go.Proofs.Ytjhegigcjchegaa.bal
set_option linter.unusedVariables false
set_option linter.unusedSimpArgs false

theorem infoInt : (Try.prog.info? 3).map (fun i => (i.zero, i.size, i.bytes)) = some (some (.int .i64 0), 1, 8) := by kernel_rfl

theorem ints_one (l : List Int) : ∀ u ∈ ints l, u.oneCell' = true := by
  intro u hu
  simp only [ints, List.mem_map] at hu
  obtain ⟨n, _, rfl⟩ := hu
  rfl

theorem ints_append (a b : List Int) : ints a ++ ints b = ints (a ++ b) := by simp [ints]

theorem walk_notA (n : Int) (la lb : List Int) (a b : Option Addr) (ca cb : Nat) (w : World) (hla : la.length ≤ 1048576) (hlb : lb.length ≤ 1048576) (hna : a = none → la.length = 0 ∧ ca = 0) (hnb : b = none → lb.length = 0 ∧ cb = 0)
    (hat : Lie w a (ints la)) (hbt : Lie w b (ints lb)) 
    (hA : enoughB n la = false) :
    Calls Try.prog 7 #[.int .i64 n, .slice a la.length ca, .slice b lb.length cb] w fun e w' => e = .returned (.bool true) ∧ Below w.heap.size w w' := by
  obtain ⟨i0, hi, hz0, hz1, hz2⟩ := info_parts infoInt
  go_enter Try.func7, Try.ntmps7
  go_wp2_with fail
  refine (awake_any _).mono ?_; rintro e w1 ⟨rfl, hb1⟩
  go_wp2_with (at_builtin; refine wpl_append rfl (.tmp 12) (.tmp 13) 40 rfl w.heap.size 3 i0 (.int .i64 0) 1 8 Try.underlying40 hi hz0 hz1 hz2 rfl (by decide) _ 0 [] rfl (World.ownsRow_nil _ _ _ _) a la.length ca (ints la) rfl hna (by simp [ints]) (hat.below hb1) (ints_one _) (by unfold maxLen; omega) (by omega) hb1.size ?_)
  intro v2 w2 hown2 hgr2
  have hB2 : Below w.heap.size w w2 := hb1.trans ((Below.refl _ _).grown hgr2 hb1.size (by intro k hk; simp [Value.ownBlock] at hk))
  clear hgr2
  go_wp2_with (at_builtin; refine wpl_append rfl (.tmp 15) (.tmp 16) 40 rfl w.heap.size 3 i0 (.int .i64 0) 1 8 Try.underlying40 hi hz0 hz1 hz2 rfl (by decide) v2 la.length (ints la) rfl hown2 b lb.length cb (ints lb) rfl hnb (by simp [ints]) (hbt.below hB2) (ints_one _) (by unfold maxLen; omega) (by omega) hB2.size ?_)
  intro v3 w3 hown3 hgr3
  have hB3 : Below w.heap.size w w3 := hB2.trans ((Below.refl _ _).grown hgr3 hB2.size (by
    intro k hk
    exact (hown2.lt k hk).1))
  rw [ints_append] at hown3
  obtain ⟨lab, hlab⟩ : ∃ x, x = la ++ lb := ⟨_, rfl⟩
  rw [← hlab] at hown3
  obtain ⟨ao, cap, rfl, hno, hlie, _⟩ := owned_lie hown3
  have hlen : la.length + lb.length = lab.length := by simp [hlab]
  rw [hlen]
  have HL := Lib.hid hlab
  have hll : lab.length ≤ 9223372036854775807 := by omega
  clear hown2 hown3 hgr3 hlen hB2 hlab
  go_wp2_with fail
  refine (count_any n lab ao cap _ hll hlie).mono ?_; rintro e w4 ⟨rfl, hb4⟩
  have hB4 : Below w.heap.size w w4 := hB3.trans (hb4.mono hB3.size)
  go_wp2_with fail
  refine (count_any n la a ca _ (by omega) (hat.below hB4)).mono ?_; rintro e w5 ⟨rfl, hb5⟩
  have hB5 : Below w.heap.size w w5 := hB4.trans (hb5.mono hB4.size)
  have hlie5 : Lie w5 ao (ints lab) := (hlie.below hb4).below hb5
  have hle : (cntG n la : Int) ≤ (cntG n lab : Int) := by have := cntG_append n la lb; rw [HL.out]; omega
  go_wp2_with fail
  refine (enough_any n la a ca _ (by omega) (hat.below hB5)).mono ?_; rintro e w6 ⟨rfl, hb6⟩
  have hB6 : Below w.heap.size w w6 := hB5.trans (hb6.mono hB5.size)
  go_wp2_with fail
  refine (enough_any n la a ca _ (by omega) (hat.below hB6)).mono ?_; rintro e w7 ⟨rfl, hb7⟩
  have hB7 : Below w.heap.size w w7 := hB6.trans (hb7.mono hB6.size)
  go_wp2_with fail
  go_ret
  exact ⟨rfl, hB7⟩

theorem walk_notB (n : Int) (la lb : List Int) (a b : Option Addr) (ca cb : Nat) (w : World) (hla : la.length ≤ 1048576) (hlb : lb.length ≤ 1048576) (hna : a = none → la.length = 0 ∧ ca = 0) (hnb : b = none → lb.length = 0 ∧ cb = 0)
    (hat : Lie w a (ints la)) (hbt : Lie w b (ints lb)) 
    (hA : enoughB n la = true) (hB : enoughB n lb = false) :
    Calls Try.prog 7 #[.int .i64 n, .slice a la.length ca, .slice b lb.length cb] w fun e w' => e = .returned (.bool true) ∧ Below w.heap.size w w' := by
  obtain ⟨i0, hi, hz0, hz1, hz2⟩ := info_parts infoInt
  go_enter Try.func7, Try.ntmps7
  go_wp2_with fail
  refine (awake_any _).mono ?_; rintro e w1 ⟨rfl, hb1⟩
  go_wp2_with (at_builtin; refine wpl_append rfl (.tmp 12) (.tmp 13) 40 rfl w.heap.size 3 i0 (.int .i64 0) 1 8 Try.underlying40 hi hz0 hz1 hz2 rfl (by decide) _ 0 [] rfl (World.ownsRow_nil _ _ _ _) a la.length ca (ints la) rfl hna (by simp [ints]) (hat.below hb1) (ints_one _) (by unfold maxLen; omega) (by omega) hb1.size ?_)
  intro v2 w2 hown2 hgr2
  have hB2 : Below w.heap.size w w2 := hb1.trans ((Below.refl _ _).grown hgr2 hb1.size (by intro k hk; simp [Value.ownBlock] at hk))
  clear hgr2
  go_wp2_with (at_builtin; refine wpl_append rfl (.tmp 15) (.tmp 16) 40 rfl w.heap.size 3 i0 (.int .i64 0) 1 8 Try.underlying40 hi hz0 hz1 hz2 rfl (by decide) v2 la.length (ints la) rfl hown2 b lb.length cb (ints lb) rfl hnb (by simp [ints]) (hbt.below hB2) (ints_one _) (by unfold maxLen; omega) (by omega) hB2.size ?_)
  intro v3 w3 hown3 hgr3
  have hB3 : Below w.heap.size w w3 := hB2.trans ((Below.refl _ _).grown hgr3 hB2.size (by
    intro k hk
    exact (hown2.lt k hk).1))
  rw [ints_append] at hown3
  obtain ⟨lab, hlab⟩ : ∃ x, x = la ++ lb := ⟨_, rfl⟩
  rw [← hlab] at hown3
  obtain ⟨ao, cap, rfl, hno, hlie, _⟩ := owned_lie hown3
  have hlen : la.length + lb.length = lab.length := by simp [hlab]
  rw [hlen]
  have HL := Lib.hid hlab
  have hll : lab.length ≤ 9223372036854775807 := by omega
  clear hown2 hown3 hgr3 hlen hB2 hlab
  go_wp2_with fail
  refine (count_any n lab ao cap _ hll hlie).mono ?_; rintro e w4 ⟨rfl, hb4⟩
  have hB4 : Below w.heap.size w w4 := hB3.trans (hb4.mono hB3.size)
  go_wp2_with fail
  refine (count_any n la a ca _ (by omega) (hat.below hB4)).mono ?_; rintro e w5 ⟨rfl, hb5⟩
  have hB5 : Below w.heap.size w w5 := hB4.trans (hb5.mono hB4.size)
  have hlie5 : Lie w5 ao (ints lab) := (hlie.below hb4).below hb5
  have hle : (cntG n la : Int) ≤ (cntG n lab : Int) := by have := cntG_append n la lb; rw [HL.out]; omega
  go_wp2_with fail
  have hAB : enoughB n lab = true := by rw [HL.out]; exact enoughB_append lb hA
  refine (enough_any n la a ca _ (by omega) (hat.below hB5)).mono ?_; rintro e w6 ⟨rfl, hb6⟩
  have hB6 : Below w.heap.size w w6 := hB5.trans (hb6.mono hB5.size)
  go_wp2_with fail
  refine (enough_any n lab ao cap _ hll (hlie5.below hb6)).mono ?_; rintro e w7 ⟨rfl, hb7⟩
  have hB7 : Below w.heap.size w w7 := hB6.trans (hb7.mono hB6.size)
  go_wp2_with fail
  refine (enough_any n la a ca _ (by omega) (hat.below hB7)).mono ?_; rintro e w8 ⟨rfl, hb8⟩
  have hB8 : Below w.heap.size w w8 := hB7.trans (hb8.mono hB7.size)
  go_wp2_with fail
  refine (enough_any n lb b cb _ (by omega) (hbt.below hB8)).mono ?_; rintro e w9 ⟨rfl, hb9⟩
  have hB9 : Below w.heap.size w w9 := hB8.trans (hb9.mono hB8.size)
  go_wp2_with fail
  go_ret
  exact ⟨rfl, hB9⟩

def hit (n : Int) (la lb : List Int) (i k : Nat) : Prop := ∃ x, la[i]? = some x ∧ lb[k]? = some x ∧ 1 ≤ x ∧ x ≤ n

theorem walk_both (n : Int) (la lb : List Int) (a b : Option Addr) (ca cb : Nat) (w : World) (hla : la.length ≤ 1048576) (hlb : lb.length ≤ 1048576) (hna : a = none → la.length = 0 ∧ ca = 0) (hnb : b = none → lb.length = 0 ∧ cb = 0)
    (hat : Lie w a (ints la)) (hbt : Lie w b (ints lb)) 
    (hA : enoughB n la = true) (hB : enoughB n lb = true) :
    Calls Try.prog 7 #[.int .i64 n, .slice a la.length ca, .slice b lb.length cb] w fun e w' => e = .returned (.bool true) ∧ Below w.heap.size w w' := by
  have hat0 := hat
  have hbt0 := hbt
  obtain ⟨hex1, hex2⟩ : la ≠ [] ∧ lb ≠ [] := by
    obtain ⟨x, h1, h2, _⟩ := meets hA hB
    exact ⟨List.ne_nil_of_mem h1, List.ne_nil_of_mem h2⟩
  obtain ⟨ba, oa, rfl, hba, hca⟩ := hat0.resolve_left (by simpa [ints] using hex1)
  obtain ⟨bb, ob, rfl, hbb, hcb⟩ := hbt0.resolve_left (by simpa [ints] using hex2)
  have HCA := Lib.hid hca
  have HCB := Lib.hid hcb
  have HM := Lib.hid (meets hA hB)
  clear hca hcb hex1 hex2
  obtain ⟨i0, hi, hz0, hz1, hz2⟩ := info_parts infoInt
  go_enter Try.func7, Try.ntmps7
  go_wp2_with fail
  refine (awake_any _).mono ?_; rintro e w1 ⟨rfl, hb1⟩
  go_wp2_with (at_builtin; refine wpl_append rfl (.tmp 12) (.tmp 13) 40 rfl w.heap.size 3 i0 (.int .i64 0) 1 8 Try.underlying40 hi hz0 hz1 hz2 rfl (by decide) _ 0 [] rfl (World.ownsRow_nil _ _ _ _) _ la.length ca (ints la) rfl hna (by simp [ints]) (hat.below hb1) (ints_one _) (by unfold maxLen; omega) (by omega) hb1.size ?_)
  intro v2 w2 hown2 hgr2
  have hB2 : Below w.heap.size w w2 := hb1.trans ((Below.refl _ _).grown hgr2 hb1.size (by intro k hk; simp [Value.ownBlock] at hk))
  clear hgr2
  go_wp2_with (at_builtin; refine wpl_append rfl (.tmp 15) (.tmp 16) 40 rfl w.heap.size 3 i0 (.int .i64 0) 1 8 Try.underlying40 hi hz0 hz1 hz2 rfl (by decide) v2 la.length (ints la) rfl hown2 _ lb.length cb (ints lb) rfl hnb (by simp [ints]) (hbt.below hB2) (ints_one _) (by unfold maxLen; omega) (by omega) hB2.size ?_)
  intro v3 w3 hown3 hgr3
  have hB3 : Below w.heap.size w w3 := hB2.trans ((Below.refl _ _).grown hgr3 hB2.size (by
    intro k hk
    exact (hown2.lt k hk).1))
  rw [ints_append] at hown3
  obtain ⟨lab, hlab⟩ : ∃ x, x = la ++ lb := ⟨_, rfl⟩
  rw [← hlab] at hown3
  obtain ⟨ao, cap, rfl, hno, hlie, _⟩ := owned_lie hown3
  have hlen : la.length + lb.length = lab.length := by simp [hlab]
  rw [hlen]
  have HL := Lib.hid hlab
  have hll : lab.length ≤ 9223372036854775807 := by omega
  clear hown2 hown3 hgr3 hlen hB2 hlab
  go_wp2_with fail
  refine (count_any n lab ao cap _ hll hlie).mono ?_; rintro e w4 ⟨rfl, hb4⟩
  have hB4 : Below w.heap.size w w4 := hB3.trans (hb4.mono hB3.size)
  go_wp2_with fail
  refine (count_any n la _ ca _ (by omega) (hat.below hB4)).mono ?_; rintro e w5 ⟨rfl, hb5⟩
  have hB5 : Below w.heap.size w w5 := hB4.trans (hb5.mono hB4.size)
  have hlie5 : Lie w5 ao (ints lab) := (hlie.below hb4).below hb5
  have hle : (cntG n la : Int) ≤ (cntG n lab : Int) := by have := cntG_append n la lb; rw [HL.out]; omega
  go_wp2_with fail
  have hAB : enoughB n lab = true := by rw [HL.out]; exact enoughB_append lb hA
  refine (enough_any n la _ ca _ (by omega) (hat.below hB5)).mono ?_; rintro e w6 ⟨rfl, hb6⟩
  have hB6 : Below w.heap.size w w6 := hB5.trans (hb6.mono hB5.size)
  go_wp2_with fail
  refine (enough_any n lab ao cap _ hll (hlie5.below hb6)).mono ?_; rintro e w7 ⟨rfl, hb7⟩
  have hB7 : Below w.heap.size w w7 := hB6.trans (hb7.mono hB6.size)
  go_wp2_with fail
  refine (enough_any n la _ ca _ (by omega) (hat.below hB7)).mono ?_; rintro e w8 ⟨rfl, hb8⟩
  have hB8 : Below w.heap.size w w8 := hB7.trans (hb8.mono hB7.size)
  go_wp2_with fail
  refine (enough_any n lb _ cb _ (by omega) (hbt.below hB8)).mono ?_; rintro e w9 ⟨rfl, hb9⟩
  have hB9 : Below w.heap.size w w9 := hB8.trans (hb9.mono hB8.size)
  go_wp2_with fail
  clear hb1 hb4 hb5 hb6 hb7 hb8 hb9 hB3 hB4 hB5 hB6 hB7 hB8 hlie hlie5 hll HL hle hAB hi hz0 hz1 hz2 hat hbt hna hnb hno
  go_loopw [8] (fun i wr => ∃ k : Nat, k ≤ la.length ∧ i = .int .i64 k ∧ Below w.heap.size w wr ∧ Hid (∀ i' k', i' < k → ¬ hit n la lb i' k')) (fun i _ => la.length - (intOf i).toNat)
  case atStart => exact ⟨0, Nat.zero_le _, rfl, hB9, fun i' k' h => absurd h (by omega)⟩
  case round =>
    obtain ⟨k, hk, rfl, hb, hno⟩ := hrel
    obtain ⟨wo, rfl⟩ : ∃ wo : World, wo = wr := ⟨_, rfl⟩
    by_cases hlt : k < la.length
    · go_wp2_with fail
      go_loopw [9] (fun i wr => ∃ m : Nat, m ≤ lb.length ∧ i = .int .i64 m ∧ Below w.heap.size w wr ∧ Hid (∀ k', k' < m → ¬ hit n la lb k k')) (fun i _ => lb.length - (intOf i).toNat)
      case atStart => exact ⟨0, Nat.zero_le _, rfl, hb, fun k' h => absurd h (by omega)⟩
      case round =>
        obtain ⟨m, hm, rfl, hb', hno'⟩ := hrel
        by_cases hlm : m < lb.length
        · obtain ⟨x, hx⟩ : ∃ x, x = la[k] := ⟨_, rfl⟩
          obtain ⟨y, hy⟩ : ∃ y, y = lb[m] := ⟨_, rfl⟩
          have hx' : wr.cell? ⟨ba, oa + k, none⟩ = some (.int .i64 x) := by
            rw [hb'.cell (by exact hba), HCA.out k (by simpa [ints] using hlt), hx]; simp [ints, hlt]
          have hy' : wr.cell? ⟨bb, ob + m, none⟩ = some (.int .i64 y) := by
            rw [hb'.cell (by exact hbb), HCB.out m (by simpa [ints] using hlm), hy]; simp [ints, hlm]
          have HX := Lib.hid hx
          have HY := Lib.hid hy
          clear hx hy
          have c1 : decide ((k : Int) < (la.length : Int)) = true := by simpa using hlt
          have c2 : decide ((m : Int) < (lb.length : Int)) = true := by simpa using hlm
          rcases (show ((x == y) = true ∧ decide (1 ≤ x) = true ∧ decide (x ≤ n) = true) ∨ ((x == y) = false) ∨ ((x == y) = true ∧ decide (1 ≤ x) = false) ∨ ((x == y) = true ∧ decide (1 ≤ x) = true ∧ decide (x ≤ n) = false) by cases (x == y) <;> cases decide (1 ≤ x) <;> cases decide (x ≤ n) <;> simp) with ⟨d1, d2, d3⟩ | d1 | ⟨d1, d2⟩ | ⟨d1, d2, d3⟩
          · go_wp2_with fail
            go_quiet (fail)
            go_wp2_with fail
            go_ret
            exact ⟨rfl, below_drewN hb' _⟩
          all_goals
            have hnh : Hid (¬ hit n la lb k m) := by
              rintro ⟨z, h1, h2, h3, h4⟩
              rw [List.getElem?_eq_getElem hlt, ← HX.out] at h1
              rw [List.getElem?_eq_getElem hlm, ← HY.out] at h2
              cases h1
              cases h2
              simp at *
              try omega
            have hnn : Hid (∀ k', k' < m + 1 → ¬ hit n la lb k k') := by
              intro k' hk'
              by_cases e : k' = m
              · rw [e]; exact hnh.out
              · exact hno'.out k' (by omega)
            clear hnh hno'
            go_wp2_with fail
            go_quiet (fail)
            go_wp2_with fail
            go_roundw
            case rel => exact ⟨m + 1, by omega, by go_num, below_drewN hb' _, hnn⟩
            case measure => simp [intOf]; omega
        · have hnn : Hid (∀ i' k', i' < k + 1 → ¬ hit n la lb i' k') := by
            intro i' k' hi'
            by_cases e : i' = k
            · rw [e]
              by_cases hk' : k' < m
              · exact hno'.out k' hk'
              · rintro ⟨z, h1, h2, h3, h4⟩
                rw [List.getElem?_eq_none (by omega)] at h2
                cases h2
            · exact hno.out i' k' (by omega)
          clear hno hno'
          go_wp2_with fail
          go_roundw
          case rel => exact ⟨k + 1, by omega, by go_num, hb', hnn⟩
          case measure => simp [intOf]; omega
    · exfalso
      obtain ⟨x, h1, h2, h3, h4⟩ := HM.out
      obtain ⟨i', hi', e1⟩ := List.getElem_of_mem h1
      obtain ⟨k', hk', e2⟩ := List.getElem_of_mem h2
      exact hno.out i' k' (by omega) ⟨x, by rw [List.getElem?_eq_getElem hi', e1], by rw [List.getElem?_eq_getElem hk', e2], h3, h4⟩

theorem walk_any (n : Int) (la lb : List Int) (a b : Option Addr) (ca cb : Nat) (w : World) (hla : la.length ≤ 1048576) (hlb : lb.length ≤ 1048576) (hna : a = none → la.length = 0 ∧ ca = 0) (hnb : b = none → lb.length = 0 ∧ cb = 0)
    (hat : Lie w a (ints la)) (hbt : Lie w b (ints lb)) :
    Calls Try.prog 7 #[.int .i64 n, .slice a la.length ca, .slice b lb.length cb] w fun e w' => e = .returned (.bool true) ∧ Below w.heap.size w w' := by
  cases hA : enoughB n la
  · exact walk_notA n la lb a b ca cb w hla hlb hna hnb hat hbt hA
  · cases hB : enoughB n lb
    · exact walk_notB n la lb a b ca cb w hla hlb hna hnb hat hbt hA hB
    · exact walk_both n la lb a b ca cb w hla hlb hna hnb hat hbt hA hB

theorem bulk_len {H : Type} (l : List (DataW H)) : l.length ≤ Rows.uptoBulkAll l := by
  induction l with
  | nil => simp [Rows.uptoBulkAll]
  | cons x r ih =>
    have : 1 ≤ Rows.uptoBulk x := by
      cases x with
      | lit l => cases l <;> simp [Rows.uptoBulk]
      | _ => simp [Rows.uptoBulk]
    simp only [Rows.uptoBulkAll, List.length_cons]
    omega

theorem lawWalk {H : Type} (enc : TypeId × Value → H) : LawWalk enc Try.prog 7 Try.f7 fun ds => Rows.uptoBulkAll ds ≤ 1048576 := by
  intro W base args ds p hval hA hsz hk
  have hA : DataW.TrodAll enc Try.prog W 0 (fun _ => true) true Try.f7.params.toList args.toList ds p := hA
  rw [Try.params7] at hA hval
  obtain ⟨v0, vs0, d0, ds0, p0, q0, hargs, rfl, rfl, h0, r0⟩ := trodAll_cons hA
  obtain ⟨v1, vs1, d1, ds1, p1, q1, rfl, rfl, rfl, h1, r1⟩ := trodAll_cons r0
  obtain ⟨v2, vs2, d2, ds2, p2, q2, rfl, rfl, rfl, h2, r2⟩ := trodAll_cons r1
  obtain ⟨rfl, rfl, rfl⟩ := trodAll_nil r2
  obtain rfl : args = #[v0, v1, v2] := by cases args; simp_all
  obtain ⟨n, rfl, rfl, rfl, w1⟩ := open_int Try.underlying3 (hval 0 3 v0 rfl rfl) h0
  obtain ⟨a, la, ca, rfl, _, _, hna, hat, _, hda⟩ := open_slice_int Try.underlying40 Try.underlying3 (by kernel_rfl) (hval 1 40 v1 rfl rfl) h1
  obtain ⟨b, lb, cb, rfl, _, _, hnb, hbt, _, hdb⟩ := open_slice_int Try.underlying40 Try.underlying3 (by kernel_rfl) (hval 2 40 v2 rfl rfl) h2
  have key : ∀ (d : DataW H) (l : List Int) (c : Nat), (d = .nil ∧ l = [] ∨ ∃ sp, d = .slice (l.map fun n => .lit (.int .i64 n)) sp ∧ l.length + sp.length = c) → l.length ≤ Rows.uptoBulk d := by
    intro d l c h
    rcases h with ⟨rfl, rfl⟩ | ⟨sp, rfl, _⟩
    · simp
    · have := bulk_len (l.map fun n => (DataW.lit (.int .i64 n) : DataW H))
      simp only [List.length_map] at this
      simp only [Rows.uptoBulk]
      omega
  have k1 := key _ _ _ hda
  have k2 := key _ _ _ hdb
  simp only [Rows.uptoBulkAll] at hk
  exact walk_any n la lb a b ca cb W (by omega) (by omega) hna hnb hat hbt

theorem own : ownKnob Try.prog.godebug = none := by kernel_rfl
theorem laidOut : laidOutB Try.prog = true := by kernel_rfl

set_option maxRecDepth 100000 in
theorem lifted (os : Os) (started : os.Started) (H : Type) (enc : TypeId × Value → H) (F : Stop.Interp) :
    ReturnsInHanded {} Try.checked os 7 .any ((Rows.OpenSpec.upto Rows.ballotMeetsSpec).pre6 enc Try.prog Try.f7 Rows.ballotMeetsUptoRow.domain false) (((Rows.OpenSpec.upto Rows.ballotMeetsSpec).at F).post enc Try.prog Try.f7 false true false false) := by
  refine returnsInHanded_of_cond_sized (C := Try.checked) (s := Rows.OpenSpec.upto Rows.ballotMeetsSpec) (k := Rows.uptoSmall) rfl own started (by kernel_rfl) Try.func7
    (OpenSpec.witness (enc := enc) (C := Try.checked) (s := Rows.OpenSpec.upto Rows.ballotMeetsSpec) (k := Rows.uptoSmall) rfl false ⟨#[], #[.int .i64 0, .slice none 0 0, .slice none 0 0], []⟩ 8 (by kernel_rfl) (by kernel_rfl) (by kernel_rfl)
      (x := ([.lit (.int .i64 0), .nil, .nil], [], [])) (by kernel_rfl) rfl (by kernel_rfl)) ?_
  intro W base args ds gs before hval hW hcnd hk hsz _
  have hgs : gs = [] := by
    obtain ⟨p, q, hA, hV, _⟩ := hW
    exact (trodVars_none hV).1
  subst hgs
  have hk' : Rows.uptoBulkAll ds ≤ 1048576 := by simpa [Rows.uptoSmall] using hk
  exact law_post (C := Try.checked) (s := Rows.ballotMeetsSpec) laidOut (fun ds h => by match ds, h with | [_, _, _], _ => rfl) 4 rfl Try.underlying4 rfl (by kernel_rfl) hval hW hsz hk' (lawWalk enc)

theorem proved : Rows.BallotMeetsUptoSaid :=
  OpenClaim.holds_of_cond 7 Try.f7 rfl rfl rfl rfl rfl rfl rfl ⟨rfl, rfl, rfl, rfl, rfl⟩ rfl rfl rfl rfl rfl (by kernel_rfl) Try.func7 (by kernel_rfl)
    (of_decide_eq_true (by kernel_rfl)) (by unfold Func.isWrapper; first | (rw [if_pos (by decide +kernel)]; kernel_rfl) | (rw [if_neg (by decide +kernel)]; exact ⟨rfl, rfl⟩))
    (fun os started H enc _ F => lifted os started H enc F)
#print axioms proved
end Go.Proofs.Ytjhegigcjchegaa.ballotMeets
