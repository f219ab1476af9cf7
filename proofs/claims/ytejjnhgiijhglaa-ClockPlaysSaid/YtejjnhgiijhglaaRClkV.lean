/-
  The document's clock (purseref07) in memory: Names.
-/
import Derived.Test.YtejjnhgiijhglaaRClkU
namespace Go.Proofs.Ytejjnhgiijhglaa.rclkv
open Go.ChangeShapes Go.WideShapes Go.ChangeAt Go.RowKit
open Go.Proofs.Ytejjnhgiijhglaa.kit Go.Proofs.Ytejjnhgiijhglaa.own Go.Proofs.Ytejjnhgiijhglaa.clkp Go.Proofs.Ytejjnhgiijhglaa.clks Go.Proofs.Ytejjnhgiijhglaa.clkt Go.Proofs.Ytejjnhgiijhglaa.clkr Go.Proofs.Ytejjnhgiijhglaa.rclkp Go.Proofs.Ytejjnhgiijhglaa.rclk Go.Proofs.Ytejjnhgiijhglaa.rclks Go.Proofs.Ytejjnhgiijhglaa.rclkt Go.Proofs.Ytejjnhgiijhglaa.rclku
set_option linter.unusedVariables false
set_option linter.unusedSimpArgs false
set_option maxHeartbeats 1000000
set_option maxRecDepth 100000

/-- N is the first time behind a of those in front of the i'th; 0: there is none. -/
def Mn (P : List T3) (a : Int) (i : Nat) (N : Int) : Prop :=
  (N = 0 ∧ ∀ j (hj : j < P.length), j < i → P[j].due ≤ a) ∨ (a < N ∧ (∃ j, ∃ hj : j < P.length, j < i ∧ P[j].due = N) ∧ ∀ j (hj : j < P.length), j < i → P[j].due ≤ a ∨ N ≤ P[j].due)
theorem mn_zero (P : List T3) (a : Int) : Mn P a 0 0 := .inl ⟨rfl, fun j hj h => by omega⟩
theorem mn_take' {P : List T3} {a N : Int} {i : Nat} (ha : 0 ≤ a) (h : Mn P a i N) (hi : i < P.length) (hd : a < P[i].due) (hn : N = 0 ∨ P[i].due < N) : Mn P a (i + 1) P[i].due := by
  refine .inr ⟨hd, ⟨i, hi, by omega, rfl⟩, fun j hj hji => ?_⟩
  rcases Nat.lt_or_ge j i with h1 | h1
  · rcases h with ⟨-, h2⟩ | ⟨h3, -, h2⟩
    · exact .inl (h2 j hj h1)
    · rcases h2 j hj h1 with h4 | h4
      · exact .inl h4
      · exact .inr (by omega)
  · obtain rfl : j = i := by omega
    exact .inr (Int.le_refl _)
theorem mn_skip {P : List T3} {a N : Int} {i : Nat} (h : Mn P a i N) (hi : i < P.length) (hd : P[i].due ≤ a ∨ (N ≠ 0 ∧ N ≤ P[i].due)) : Mn P a (i + 1) N := by
  rcases h with ⟨h1, h2⟩ | ⟨h1, ⟨j', hj', hji', e⟩, h2⟩
  · refine .inl ⟨h1, fun j hj hji => ?_⟩
    rcases Nat.lt_or_ge j i with h3 | h3
    · exact h2 j hj h3
    · obtain rfl : j = i := by omega
      rcases hd with hd | hd
      · exact hd
      · exact absurd h1 hd.1
  · refine .inr ⟨h1, ⟨j', hj', by omega, e⟩, fun j hj hji => ?_⟩
    rcases Nat.lt_or_ge j i with h3 | h3
    · exact h2 j hj h3
    · obtain rfl : j = i := by omega
      rcases hd with hd | hd
      · exact .inl hd
      · exact .inr hd.2
theorem mn_end {P : List T3} {a N : Int} (h : Mn P a P.length N) (hm : ∃ t ∈ P, a < t.due) : a < N ∧ (∃ j, ∃ hj : j < P.length, P[j].due = N) ∧ ∀ t ∈ P, t.due ≤ a ∨ N ≤ t.due := by
  rcases h with ⟨h1, h2⟩ | ⟨h1, ⟨j', hj', hji', e⟩, h2⟩
  · obtain ⟨t, ht, h3⟩ := hm
    obtain ⟨j, hj, rfl⟩ := List.getElem_of_mem ht
    have := h2 j hj hj
    omega
  · refine ⟨h1, ⟨j', hj', e⟩, fun t ht => ?_⟩
    obtain ⟨j, hj, rfl⟩ := List.getElem_of_mem ht
    exact h2 j hj hj
theorem dueL_pos {P : List T3} {d : Int} {j : Nat} (hj : j < P.length) (h : P[j].due = d) : 0 < (dueL P d).length := by
  unfold dueL
  rw [List.length_map]
  exact List.length_pos_of_mem (List.mem_filter.2 ⟨List.getElem_mem hj, decide_eq_true h⟩)
def lenV : Value → Nat
  | .slice _ n _ => n
  | _ => 0

theorem rnames_ok (w : World) (base b : Nat) (A : CkS) (P : List T3) (h : RefAt w base b A.now P) (hR : Rel A P) (ho : Ok A) (hf : Fut A) :
    Calls Try.prog 18 #[.pointer (some ⟨b, 0, none⟩)] w fun e w' => ∃ (a : Option Addr) (c : Nat), e = .returned (.slice a (A.s.map T3.nm).length c) ∧ w'.ownsRow w.heap.size 9 1 (.slice a (A.s.map T3.nm).length c) (A.s.map T3.nm).length ((A.s.map T3.nm).map Value.string) ∧ Below w.heap.size w w' := by
  obtain ⟨i0, hi, hw0, hw1, hw2⟩ := info_parts infoStr
  have hpl := rel_len hR
  have hl : P.length ≤ 64 := by rw [hpl]; exact ho.len
  have HU0 : Hid (upTo A 0 = []) := upTo_zero ho hf
  have HNX : Hid (∀ {a n : Int}, a < n → (∀ t ∈ P, t.due ≤ a ∨ n ≤ t.due) → upTo A a ++ dueL P n = upTo A n) := fun h1 h2 => upTo_next hR ho h1 h2
  have HFU : Hid (∀ a, ¬ (upTo A a).length < P.length → upTo A a = A.s.map T3.nm) := fun a h1 => upTo_full (by rw [← hpl]; exact h1)
  have HMO : Hid (∀ a, (upTo A a).length < P.length → ∃ t ∈ P, a < t.due) := fun a h1 => upTo_more hR (by rw [← hpl]; exact h1)
  have HLE : Hid (∀ a, (upTo A a).length ≤ P.length) := fun a => by rw [hpl]; exact upTo_len
  obtain ⟨h1, a, c, h2, h3⟩ := h
  have HC : Hid (∀ wz : World, Below w.heap.size w wz → wz.cell? ⟨b, 1, none⟩ = some (.slice a P.length c) ∧ b < wz.heap.size ∧ ∀ k (hk : k < P.length), ∃ g, a = some ⟨g, 0, none⟩ ∧ g < wz.heap.size ∧ wz.cell? ⟨g, k * 2, none⟩ = some (.string P[k].nm) ∧ wz.cell? ⟨g, k * 2 + 1, none⟩ = some (.int .i64 P[k].due)) := by
    intro wz hz
    obtain ⟨q1, q2, q3⟩ := kit.blk (hp_step h2 hz)
    refine ⟨q1 1, q3, fun k hk => ?_⟩
    obtain ⟨g, e⟩ := own_ptr h3 (by omega)
    subst e
    obtain ⟨m0, m1⟩ := rc_cell h3 hk
    exact ⟨g, rfl, Nat.lt_of_lt_of_le (own_from h3 g rfl).2 hz.size, cell_step m0 hz, cell_step m1 hz⟩
  clear h1 h2 h3 hR ho hf hpl
  go_enter Try.func18, Try.ntmps18
  go_wp2_with fail
  go_loopw [3, 4] (fun ov tv wr => ∃ (t : Int) (ao : Option Addr) (co : Nat), 0 ≤ t ∧ tv = .int .i64 t ∧ ov = .slice ao (upTo A t).length co ∧ Hid (wr.ownsRow w.heap.size 9 1 (.slice ao (upTo A t).length co) (upTo A t).length ((upTo A t).map Value.string)) ∧ Hid (Below w.heap.size w wr)) (fun ov _ _ => P.length - lenV ov)
  case atStart => exact ⟨0, none, 0, Int.le_refl _, rfl, by rw [HU0.out]; rfl, by rw [HU0.out]; exact World.ownsRow_nil _ _ _ _, Below.refl _ _⟩
  case round =>
    obtain ⟨t, ao, co, ht0, rfl, rfl, HO, HB⟩ := hrel
    obtain ⟨c1, hbz, -⟩ := HC.out wr HB.out
    have hul := HLE.out t
    obtain ⟨U, hU⟩ : ∃ U, U = upTo A t := ⟨_, rfl⟩
    have HU := Lib.hid hU
    rw [← hU] at HO hul ⊢
    clear hU
    by_cases hlt : U.length < P.length
    · have hMO := HMO.out t (by rw [← HU.out]; exact hlt)
      have HM := Lib.hid hMO
      clear hMO
      obtain ⟨wo, hwo⟩ : ∃ wo : World, wo = wr := ⟨_, rfl⟩
      subst hwo
      go_wp2_with fail
      go_loopw [5, 6] (fun nv iv wx => ∃ (i : Nat) (N : Int), i ≤ P.length ∧ iv = .int .i64 i ∧ nv = .int .i64 N ∧ Hid (Mn P t i N) ∧ wx = wo) (fun _ iv _ => P.length - (intOf iv).toNat)
      case atStart => exact ⟨0, 0, Nat.zero_le _, rfl, rfl, mn_zero P t, rfl⟩
      case round =>
        obtain ⟨i, N, hi', rfl, rfl, HMN, rfl⟩ := hrel
        obtain ⟨c1, hbz, hrow⟩ := HC.out _ HB.out
        by_cases hil : i < P.length
        · obtain ⟨g, rfl, hgz, -, m1⟩ := hrow i hil
          have HTK : Hid (t < P[i].due → (N = 0 ∨ P[i].due < N) → Mn P t (i + 1) P[i].due) := fun h1 h2 => mn_take' ht0 HMN.out hil h1 h2
          have HSK : Hid ((P[i].due ≤ t ∨ (N ≠ 0 ∧ N ≤ P[i].due)) → Mn P t (i + 1) N) := fun h1 => mn_skip HMN.out hil h1
          obtain ⟨d, hd⟩ : ∃ d, d = P[i].due := ⟨_, rfl⟩
          rw [← hd] at m1 HTK HSK
          clear hd hrow
          by_cases k1 : t < d
          · have g1 : decide (t < d) = true := decide_eq_true k1
            by_cases k2 : N = 0
            · have HE := Lib.hid (HTK.out k1 (.inl k2))
              subst k2
              go_wp2_with fail
              go_roundw
              case rel => exact ⟨i + 1, d, by omega, by go_num, rfl, HE, by first | trivial | rfl⟩
              case measure => simp [intOf]; omega
            · have g2 : (N == 0) = false := by simpa using k2
              by_cases k3 : d < N
              · have g3 : decide (d < N) = true := decide_eq_true k3
                have HE := Lib.hid (HTK.out k1 (.inr k3))
                go_wp2_with fail
                go_roundw
                case rel => exact ⟨i + 1, d, by omega, by go_num, rfl, HE, by first | trivial | rfl⟩
                case measure => simp [intOf]; omega
              · have g3 : decide (d < N) = false := decide_eq_false k3
                have HE := Lib.hid (HSK.out (.inr ⟨k2, by omega⟩))
                go_wp2_with fail
                go_roundw
                case rel => exact ⟨i + 1, N, by omega, by go_num, rfl, HE, by first | trivial | rfl⟩
                case measure => simp [intOf]; omega
          · have g1 : decide (t < d) = false := decide_eq_false k1
            have HE := Lib.hid (HSK.out (.inl (by omega)))
            go_wp2_with fail
            go_roundw
            case rel => exact ⟨i + 1, N, by omega, by go_num, rfl, HE, by first | trivial | rfl⟩
            case measure => simp [intOf]; omega
        · obtain rfl : i = P.length := by omega
          obtain ⟨e1, ⟨j, hj, e2⟩, e3⟩ := mn_end HMN.out HM.out
          have HUN : Hid (U ++ dueL P N = upTo A N) := by rw [Hid, HU.out]; exact HNX.out e1 e3
          have HPO := Lib.hid (dueL_pos hj e2)
          have hN0 : 0 ≤ N := by omega
          clear e1 e2 e3 hj hrow hi' HMN HM
          go_wp2_with fail
          obtain ⟨wp, hwp⟩ : ∃ wp : World, wp = wr := ⟨_, rfl⟩
          subst hwp
          have HU00 : Hid (U ++ dueL (P.take 0) N = U) := by simp [Hid, dueL]
          go_loopw [3, 7] (fun ov iv wx => ∃ (i : Nat) (a5 : Option Addr) (c5 : Nat), i ≤ P.length ∧ iv = .int .i64 i ∧ ov = .slice a5 (U ++ dueL (P.take i) N).length c5 ∧ Hid (wx.ownsRow w.heap.size 9 1 (.slice a5 (U ++ dueL (P.take i) N).length c5) (U ++ dueL (P.take i) N).length ((U ++ dueL (P.take i) N).map Value.string)) ∧ Hid (Below w.heap.size w wx)) (fun _ iv _ => P.length - (intOf iv).toNat)
          case atStart => exact ⟨0, ao, co, Nat.zero_le _, rfl, by rw [HU00.out], by rw [HU00.out]; exact HO, HB⟩
          case round =>
            obtain ⟨i, a5, c5, hi', rfl, rfl, HO5, HB5⟩ := hrel
            obtain ⟨c1', hbz', hrow⟩ := HC.out _ HB5.out
            by_cases hil : i < P.length
            · obtain ⟨g, rfl, hgz, m0, m1⟩ := hrow i hil
              have hzr := HB5.out.size
              have hXl : (U ++ dueL (P.take i) N).length ≤ 128 := by have := dueL_len (P.take i) N; rw [List.length_take] at this; rw [List.length_append]; omega
              have HYES : Hid (P[i].due = N → U ++ dueL (P.take (i + 1)) N = (U ++ dueL (P.take i) N) ++ [P[i].nm]) := fun e => by rw [(dueL_yes hil e).1, List.append_assoc]
              have HNO : Hid (P[i].due ≠ N → U ++ dueL (P.take (i + 1)) N = U ++ dueL (P.take i) N) := fun e => by rw [(dueL_no hil e).1]
              obtain ⟨X, hX⟩ : ∃ X, X = U ++ dueL (P.take i) N := ⟨_, rfl⟩
              obtain ⟨q, hq⟩ : ∃ q, q = P[i] := ⟨_, rfl⟩
              rw [← hX] at HO5 hXl HYES HNO ⊢
              rw [← hq] at m0 m1 HYES HNO
              clear hX hq hrow
              by_cases hd : q.due = N
              · have g1 : (q.due == N) = true := by simpa using hd
                have HE := Lib.hid (HYES.out hd)
                clear hd HYES HNO
                go_wp2_with (at_builtin; refine wpl_append rfl (.tmp 79) (.tmp 88) 31 rfl w.heap.size 9 i0 _ 1 16 Try.underlying31 hi hw0 hw1 hw2 rfl (by decide) (.slice a5 X.length c5) X.length (X.map Value.string) rfl (HO5.out.alloc _) (some ⟨wr.heap.size, 0, none⟩) 1 1 [.string q.nm] rfl (by simp) rfl ?hL (by simp [Value.oneCell']) (by unfold maxLen; omega) (by omega) ?hB ?_)
                case hL => exact .inr ⟨_, 0, rfl, by rw [size_new]; omega, fun i hi => by
                  have hb := (kit.blk (hp_alloc_new wr (.cells #[.string q.nm] 9))).1 0
                  match i, hi with | 0, _ => exact hb⟩
                case hB => rw [size_new]; omega
                intro v6 w6 hown hgr
                obtain ⟨a6, c6, rfl⟩ := own_shape hown
                have HB6 : Hid (Below w.heap.size w w6) := (HB5.out.alloc hzr _).grown hgr (by rw [size_new]; omega) (fun j hj => (HO5.out.lt j hj).1)
                have HO6 : Hid (w6.ownsRow w.heap.size 9 1 (.slice a6 (U ++ dueL (P.take (i + 1)) N).length c6) (U ++ dueL (P.take (i + 1)) N).length ((U ++ dueL (P.take (i + 1)) N).map Value.string)) := by rw [Hid, HE.out, List.length_append, List.length_singleton, List.map_append]; exact hown
                have HV6 : Hid ((Value.slice a6 (X.length + 1) c6) = .slice a6 (U ++ dueL (P.take (i + 1)) N).length c6) := by rw [Hid, HE.out, List.length_append, List.length_singleton]
                clear hown hgr
                go_wp2_with fail
                go_roundw
                case rel => exact ⟨i + 1, a6, c6, by omega, by go_num, HV6.out, HO6, HB6⟩
                case measure => simp [intOf]; omega
              · have g1 : (q.due == N) = false := by simpa using hd
                have HE := Lib.hid (HNO.out hd)
                have HO6 : Hid (wr.ownsRow w.heap.size 9 1 (.slice a5 (U ++ dueL (P.take (i + 1)) N).length c5) (U ++ dueL (P.take (i + 1)) N).length ((U ++ dueL (P.take (i + 1)) N).map Value.string)) := by rw [Hid, HE.out]; exact HO5.out
                have HV6 : Hid ((Value.slice a5 X.length c5) = .slice a5 (U ++ dueL (P.take (i + 1)) N).length c5) := by rw [Hid, HE.out]
                clear hd HYES HNO
                go_wp2_with fail
                go_roundw
                case rel => exact ⟨i + 1, a5, c5, by omega, by go_num, HV6.out, HO6, HB5⟩
                case measure => simp [intOf]; omega
            · obtain rfl : i = P.length := by omega
              rw [List.take_length] at HO5 ⊢
              have HO6 : Hid (wr.ownsRow w.heap.size 9 1 (.slice a5 (upTo A N).length c5) (upTo A N).length ((upTo A N).map Value.string)) := by rw [Hid, ← HUN.out]; exact HO5.out
              have HV6 : Hid ((Value.slice a5 (U ++ dueL P N).length c5) = .slice a5 (upTo A N).length c5) := by rw [Hid, ← HUN.out]
              have HMS : Hid (P.length - (U ++ dueL P N).length < P.length - U.length) := by rw [Hid, List.length_append]; have := HPO.out; omega
              obtain ⟨xl, hxl⟩ : ∃ x, x = (U ++ dueL P N).length := ⟨_, rfl⟩
              rw [← hxl] at HV6 HMS ⊢
              clear hrow hi' hxl
              go_wp2_with fail
              go_roundw
              case rel => exact ⟨N, a5, c5, hN0, rfl, HV6.out, HO6, HB5⟩
              case measure => exact HMS.out
    · have hfu := HFU.out t (by rw [← HU.out]; exact hlt)
      rw [← HU.out] at hfu
      have HFF := Lib.hid hfu
      clear hfu
      go_wp2_with fail
      go_ret
      rw [HFF.out] at HO ⊢
      exact ⟨ao, co, rfl, HO.out, HB.out⟩
end Go.Proofs.Ytejjnhgiijhglaa.rclkv
