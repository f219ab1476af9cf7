/-
  A log of int: cells copied; the next place; Cut; what is handed to the iterators (printed by wip/mklog.py).
-/
import Derived.Test.YtpnkohjppbgiaaaLogI
namespace Go.Proofs.Ytpnkohjppbgiaaa.logi
open Go.ChangeShapes Go.WideShapes Go.ChangeAt Go.RowKit
open Go.Proofs.Ytpnkohjppbgiaaa.kit
set_option linter.unusedVariables false
set_option linter.unusedSimpArgs false
set_option maxHeartbeats 1000000
set_option maxRecDepth 100000

def Gives (w : World) (l : List (El × Bool)) (e : Ending) (w' : World) : Prop :=
  ∃ v, e = .returned v ∧ w'.ownsRow w.heap.size 77 2 v l.length (flat l) ∧ Below w.heap.size w w'
theorem clone_nil (w : World) : Calls Try.prog 51 #[.slice none 0 0] w fun e w' => e = .returned (.slice none 0 0) ∧ w = w' := by
  have hn := fun w => Lib.run_eql_slice_nil (P := Try.prog) w 73 77 none 0 0 0 0 Try.underlying73
  go_enter Try.func51, Try.ntmps51
  go_wp2_with fail
  go_ret
  exact ⟨rfl, rfl⟩
theorem clone_some (l : List (El × Bool)) (ad : Addr) (cap : Nat) (w : World) (hl : l.length ≤ 1024) (hat : Lie w (some ad) (flat l)) :
    Calls Try.prog 51 #[.slice (some ad) l.length cap] w (Gives w l) := by
  obtain ⟨i0, hi, hz0, hz1, hz2⟩ := info_parts infoCell
  have hn := fun w => Lib.run_eql_slice_nil (P := Try.prog) w 73 77 (some ad) l.length cap 0 0 Try.underlying73
  have hown : (w.alloc (.cells #[] 77)).ownsRow w.heap.size 77 2 (.slice (some ⟨w.heap.size, 0, none⟩) 0 0) 0 [] :=
    ⟨rfl, .inr ⟨w.heap.size, 0, #[], rfl, Nat.le_refl _, hp_alloc_new _ _, Nat.le_refl _, by simp [maxLen], rfl, rfl⟩⟩
  have hat' : Lie (w.alloc (.cells #[] 77)) (some ad) (flat l) := hat.below (below_new1 _ _)
  go_enter Try.func51, Try.ntmps51
  go_wp2_with (at_builtin; refine wpl_append rfl (.tmp 5) (.tmp 6) 73 rfl w.heap.size 77 i0 (.agg #[(.int .i64 (0)), .bool false]) 2 16 Try.underlying73 hi hz0 hz1 hz2 rfl (by decide) _ 0 [] rfl hown (some ad) l.length cap (flat l) rfl (by simp) (flat_len l) hat' (flat_one _) (by unfold maxLen; omega) (by omega) (by rw [size_new]; omega) ?_)
  intro v' w' hown' hgr
  go_wp2_with fail
  go_ret
  refine ⟨v', rfl, ?_, (below_new1 _ _).grown hgr (by rw [size_new]; omega) (fun k hk => (hown.lt k hk).1)⟩
  simpa using hown'
theorem clone_any (l : List (El × Bool)) (ao : Option Addr) (cap : Nat) (w : World) (hl : l.length ≤ 1024) (hn : ao = none → l.length = 0 ∧ cap = 0) (hat : Lie w ao (flat l)) :
    Calls Try.prog 51 #[.slice ao l.length cap] w (Gives w l) := by
  cases ao with
  | none =>
    obtain ⟨h1, rfl⟩ := hn rfl
    obtain rfl : l = [] := List.length_eq_zero_iff.1 h1
    refine (clone_nil w).mono fun e w' ⟨he, hw⟩ => ?_
    subst hw
    exact ⟨_, he, World.ownsRow_nil _ _ _ _, Below.refl _ _⟩
  | some ad => exact clone_some l ad cap w hl hat

def nextN (cs : List (El × Bool)) : Nat := (cs.takeWhile (fun c => c.2)).length
theorem nextN_at : ∀ (cs : List (El × Bool)) (k : Nat) (hk : k < cs.length), (∀ j (hj : j < cs.length), j < k → (cs[j]).2 = true) → (cs[k]).2 = false → nextN cs = k := by
  intro cs
  induction cs with
  | nil => intro k hk; simp at hk
  | cons x l ih =>
    intro k hk ha hf
    cases k with
    | zero => simp only [List.getElem_cons_zero] at hf; simp [nextN, List.takeWhile, hf]
    | succ k =>
      have h0 : x.2 = true := ha 0 (by simp) (by omega)
      have := ih k (by simpa using hk) (fun j hj hjk => ha (j + 1) (by simpa using hj) (by omega)) hf
      simp only [nextN] at this ⊢
      simp [List.takeWhile, h0, this]
theorem nextN_all : ∀ (cs : List (El × Bool)), (∀ j (hj : j < cs.length), (cs[j]).2 = true) → nextN cs = cs.length := by
  intro cs
  induction cs with
  | nil => intro _; rfl
  | cons x l ih =>
    intro ha
    have h0 : x.2 = true := ha 0 (by simp)
    have := ih (fun j hj => ha (j + 1) (by simpa using hj))
    simp only [nextN] at this ⊢
    simp [List.takeWhile, h0, this]
theorem nextN_le (cs : List (El × Bool)) : nextN cs ≤ cs.length := (List.takeWhile_sublist _).length_le

theorem next_ok (w : World) (base b : Nat) (f m : Int) (cs : List (El × Bool)) (h : LogAt w base b f m cs) (hF : Fit f m cs) : Calls Try.prog 16 #[.pointer (some ⟨b, 0, none⟩)] w fun e w' => e = .returned (.int .i64 (f + nextN cs)) ∧ Below w.heap.size w w' := by
  obtain ⟨h0, a, c, h1, h2⟩ := h
  obtain ⟨c0, c1, c2, f0, f1, f2, hz⟩ := blk3 h1
  have hlen := hF.len; have hf1 := hF.f1; have hf2 := hF.f2; have hm2 := hF.m2
  obtain ⟨o1, o2, o3, o4⟩ := own_open h2 rfl
  have HT : Hid (∀ W, Below w.heap.size w W → Calls Try.prog 45 #[.pointer (some ⟨b, 0, none⟩)] W fun e w' => e = .returned (.int .i64 (f + (cs.length : Int))) ∧ Below W.heap.size W w') := fun W hW => top_raw W b f a cs.length c (cell_step c0 hW) (cell_step c2 hW) (by omega) hf2 (by omega)
  have H4 := Lib.hid o4
  have C0 := Lib.hid c0
  clear o4 h1 h2
  go_enter Try.func16, Try.ntmps16
  go_wp2_with fail
  go_loopw [12] (fun i wr => ∃ k : Nat, k ≤ cs.length ∧ i = .int .i64 k ∧ Hid (∀ j (hj : j < cs.length), j < k → (cs[j]).2 = true) ∧ Below w.heap.size w wr) (fun i _ => cs.length - (intOf i).toNat)
  case atStart => exact ⟨0, Nat.zero_le _, rfl, fun j hj hk => absurd hk (by omega), Below.refl _ _⟩
  case round =>
    obtain ⟨k, hk, rfl, hall, hb⟩ := hrel
    have HB := Lib.hid hb
    by_cases hlt : k < cs.length
    · obtain ⟨g, rfl, hg, hgz, r0, r1, _⟩ := H4.out k hlt
      have q0 := cell_step r0 hb
      have q1 := cell_step r1 hb
      have k0 := cell_step c0 hb
      have z1 := cell_lt k0
      have z2 := cell_lt q0
      clear hb r0 r1 c0 c1 c2 f0 f1 f2
      have hw : IntKind.i64.wrap (f + (k : Int)) = f + k := IntWalk.i64_in _ (by omega)
      cases hc : (cs[k]).2 with
      | false =>
        have hN : nextN cs = k := nextN_at cs k hlt hall.out hc
        have HN := Lib.hid hN
        clear hN
        rw [hc] at q1
        go_wp2_with fail
        go_ret
        exact ⟨by rw [HN.out]; rfl, below_step HB.out (below_new1 _ _)⟩
      | true =>
        rw [hc] at q1
        go_wp2_with fail
        go_roundw
        case rel => exact ⟨k + 1, by omega, by go_num, fun j hj hjk => by
          rcases Nat.lt_or_eq_of_le (Nat.le_of_lt_succ hjk) with h | rfl
          · exact hall.out j hj h
          · exact hc, below_step HB.out (below_new1 _ _)⟩
        case measure => simp [intOf]; omega
    · have hN : nextN cs = cs.length := nextN_all cs (fun j hj => hall.out j hj (by omega))
      have HN := Lib.hid hN
      clear hN
      go_wp2_with fail
      refine (HT.out _ HB.out).mono ?_; rintro e w1 ⟨rfl, hb1⟩
      go_wp2_with fail
      go_ret
      exact ⟨by rw [HN.out]; rfl, below_step HB.out hb1⟩
def cutI (f i : Int) : Prop := i ≤ f ∨ 1099511627776 < i
instance (f i : Int) : Decidable (cutI f i) := by unfold cutI; infer_instance
def gone (cs : List (El × Bool)) : Nat := (cs.filter (fun c => c.2)).length
def cutE (f : Int) (cs : List (El × Bool)) (i : Int) : Int := if cutI f i then 0 else (gone (cs.take (i - f).toNat) : Nat)
def cutF (f i : Int) : Int := if cutI f i then f else i
def cutC (f : Int) (cs : List (El × Bool)) (i : Int) : List (El × Bool) := if cutI f i then cs else cs.drop (i - f).toNat
theorem cut_fit {f m : Int} {cs : List (El × Bool)} (h : Fit f m cs) (i : Int) : Fit (cutF f i) m (cutC f cs i) := by
  have h1 := h.f1; have h2 := h.f2; have hl := h.len
  unfold cutF cutC
  by_cases hc : cutI f i
  · rw [if_pos hc, if_pos hc]; exact h
  · rw [if_neg hc, if_neg hc]
    unfold cutI at hc
    refine ⟨by omega, by omega, h.m1, h.m2, ?_⟩
    rw [List.length_drop]; omega
theorem gone_snoc (cs : List (El × Bool)) (k : Nat) (hk : k < cs.length) : gone (cs.take (k + 1)) = gone (cs.take k) + (if (cs[k]).2 then 1 else 0) := by
  rw [List.take_succ_eq_append_getElem hk]
  simp only [gone, List.filter_append, List.length_append]
  cases hc : (cs[k]).2 <;> simp [List.filter, hc]

theorem cut_none (w : World) (base b : Nat) (f m : Int) (cs : List (El × Bool)) (i : Int) (h : LogAt w base b f m cs) (hc : cutI f i) :
    Calls Try.prog 15 #[.pointer (some ⟨b, 0, none⟩), .int .i64 i] w fun e w' => e = .returned (.int .i64 0) ∧ w = w' := by
  obtain ⟨h0, a, c, h1, h2⟩ := h
  obtain ⟨c0, c1, c2, f0, f1, f2, hz⟩ := blk3 h1
  by_cases h : i ≤ f
  · go_enter Try.func15, Try.ntmps15
    go_wp2_with fail
    go_ret
    exact ⟨rfl, rfl⟩
  · have h' : f < i := by omega
    have h2 : 1099511627776 < i := by rcases hc with h | h <;> omega
    go_enter Try.func15, Try.ntmps15
    go_wp2_with fail
    go_ret
    exact ⟨rfl, rfl⟩

theorem cut_some (w : World) (base b : Nat) (f m : Int) (cs : List (El × Bool)) (i : Int) (h : LogAt w base b f m cs) (hF : Fit f m cs) (hbw : base ≤ w.heap.size) (hc : ¬ cutI f i) :
    Calls Try.prog 15 #[.pointer (some ⟨b, 0, none⟩), .int .i64 i] w fun e w' => e = .returned (.int .i64 (gone (cs.take (i - f).toNat) : Nat)) ∧ LogAt w' base b i m (cs.drop (i - f).toNat) ∧ Below base w w' := by
  have hL := h
  obtain ⟨h0, a, c, h1, h2⟩ := h
  obtain ⟨c0, c1, c2, f0, f1, f2, hz⟩ := blk3 h1
  have hlen := hF.len; have hf1 := hF.f1; have hf2 := hF.f2; have hm2 := hF.m2
  have hi1 : f < i := by unfold cutI at hc; omega
  have hi2 : i ≤ 1099511627776 := by unfold cutI at hc; omega
  clear hc
  obtain ⟨o1, o2, o3, o4⟩ := own_open h2 rfl
  have hw : IntKind.i64.wrap (i - f) = i - f := IntWalk.i64_in _ (by omega)
  go_enter Try.func15, Try.ntmps15
  go_wp2_with fail
  go_region
  obtain ⟨n, hn, hnl, htk, hdr⟩ : ∃ n : Nat, (if (cs.length : Int) < i - f then (cs.length : Int) else i - f) = (n : Int) ∧ n ≤ cs.length ∧ cs.take (i - f).toNat = cs.take n ∧ cs.drop (i - f).toNat = cs.drop n := by
    split
    · exact ⟨cs.length, rfl, Nat.le_refl _, by rw [List.take_of_length_le (by omega), List.take_length], by rw [List.drop_eq_nil_of_le (by omega), List.drop_length]⟩
    · exact ⟨(i - f).toNat, by omega, by omega, rfl, rfl⟩
  rw [hn]
  have HTK := Lib.hid htk
  have HDR := Lib.hid hdr
  clear htk hdr hn
  have hLie : Lie w (if c = n then a else a.map (·.add (n * 2))) (flat (cs.drop n)) := by
    rw [flat_drop]
    rcases h2.2 with ⟨e, hz⟩ | ⟨g, cap, cur, e, hg, hh, hc, hm, hsz, hx⟩
    · left
      rw [List.drop_eq_nil_of_le]; rw [flat_len]; omega
    · simp only [Value.slice.injEq] at e
      obtain ⟨rfl, _, rfl⟩ := e
      by_cases hcn : c = n
      · left
        rw [List.drop_eq_nil_of_le]; rw [flat_len]; omega
      · right
        rw [if_neg hcn]
        refine ⟨g, n * 2, by simp [Addr.add]; omega, (blk hh).2.2, fun q hq => ?_⟩
        rw [(blk hh).1, List.getElem?_drop, ← hx, List.getElem?_take, ← Array.getElem?_toList]
        rw [List.length_drop, flat_len] at hq
        rw [if_pos (by omega)]
  have hCl : ∀ W, Below w.heap.size w W → Calls Try.prog 51 #[.slice (if c = n then a else a.map (·.add (n * 2))) (cs.length - n) (c - n)] W (Gives W (cs.drop n)) := by
    intro W hW
    have e : cs.length - n = (cs.drop n).length := by rw [List.length_drop]
    rw [e]
    refine clone_any (cs.drop n) _ _ W (by rw [List.length_drop]; omega) ?_ (hLie.below hW)
    intro ha
    have hna : a = none := by
      split at ha
      · exact ha
      · cases a with
        | none => rfl
        | some x => simp at ha
    obtain ⟨q1, q2⟩ := o3 hna
    rw [List.length_drop]; omega
  have HCa : Hid (∀ W, Below w.heap.size w W → c = n → Calls Try.prog 51 #[.slice a (cs.length - n) 0] W (Gives W (cs.drop n))) := by
    intro W hW e
    have := hCl W hW
    rw [if_pos e, e, Nat.sub_self] at this
    exact this
  have HCb : Hid (∀ W, Below w.heap.size w W → ¬ c = n → Calls Try.prog 51 #[.slice (a.map (·.add (n * 2))) (cs.length - n) (c - n)] W (Gives W (cs.drop n))) := by
    intro W hW e
    have := hCl W hW
    rw [if_neg e] at this
    exact this
  have H4 := Lib.hid o4
  have H1 := Lib.hid h1
  have H2 := Lib.hid h2
  clear hLie hCl o4 h1 h2 hL
  go_wp2_with fail
  go_loopw [6, 42] (fun s i wr => ∃ k : Nat, k ≤ n ∧ i = .int .i64 k ∧ s = .int .i64 (gone (cs.take k) : Nat) ∧ Below w.heap.size w wr) (fun _ i _ => n - (intOf i).toNat)
  case atStart => exact ⟨0, Nat.zero_le _, rfl, rfl, below_drewN (Below.refl _ _) 1⟩
  case round =>
    obtain ⟨k, hk, rfl, rfl, hb⟩ := hrel
    have HB := Lib.hid hb
    have hgl : gone (cs.take k) ≤ k := Nat.le_trans (List.length_filter_le _ _) (List.length_take_le _ _)
    by_cases hlt : k < n
    · obtain ⟨g, rfl, hg, hgz, r0, r1, _⟩ := H4.out k (by omega)
      have q0 := cell_step r0 hb
      have q1 := cell_step r1 hb
      have z2 := cell_lt q0
      have HG := Lib.hid (gone_snoc cs k (by omega))
      clear hb r0 r1 c0 c1 c2 f0 f1 f2
      cases hc : (cs[k]).2 with
      | false =>
        rw [hc] at q1
        go_wp2_with fail
        go_roundw
        case rel => exact ⟨k + 1, by omega, by go_num, by rw [HG.out, hc]; simp, below_step HB.out (below_new1 _ _)⟩
        case measure => simp [intOf]; omega
      | true =>
        rw [hc] at q1
        go_wp2_with fail
        go_roundw
        case rel => exact ⟨k + 1, by omega, by go_num, by rw [HG.out, hc]; go_num, below_step HB.out (below_new1 _ _)⟩
        case measure => simp [intOf]; omega
    · obtain rfl : k = n := by omega
      have k0 := cell_step c0 hb
      have k2 := cell_step c2 hb
      have z1 := cell_lt k0
      clear hb
      go_wp2_with fail
      all_goals first | refine (HCa.out _ HB.out (by first | rfl | assumption)).mono ?_ | refine (HCb.out _ HB.out (by assumption)).mono ?_
      all_goals (
        rintro e w5 ⟨v, rfl, hown, hb5⟩
        obtain ⟨av, cv, rfl⟩ := own_shape hown
        have hn5 := hp_step (hp_step H1.out HB.out) hb5
        have hB5 : Below w.heap.size w w5 := below_step HB.out hb5
        obtain ⟨e0, e1, e2, x0, x1, x2, z5⟩ := blk3 hn5
        have HN5 := Lib.hid hn5
        have HO5 := Lib.hid hown
        have HB5 := Lib.hid hB5
        clear hb5 hn5 hown hB5 k0 k2 z1
        go_wp2_with fail
        go_ret
        refine ⟨by rw [HTK.out]; rfl, ?_, ?_⟩
        · rw [HDR.out]
          refine ⟨h0, av, cv, by rw [List.length_drop]; exact hp_set (hp_set HN5.out 2 _) 0 _, own_kept (own_mono HO5.out (Nat.le_trans hbw HB.out.size)) (fun g hg => ?_)⟩
          have hgb : g ≠ b := fun e => by
            rcases HO5.out.2 with ⟨e', hz'⟩ | ⟨g', cap, cur, e', hg', _⟩
            · rw [hg] at e'; simp at e'
            · rw [hg] at e'
              simp only [Value.slice.injEq, Option.some.injEq, Addr.mk.injEq, and_true] at e'
              have := HB.out.size
              omega
          exact (hp_set_ne (a := ⟨b, 0, none⟩) hgb).trans (hp_set_ne (a := ⟨b, 2, none⟩) hgb)
        · exact ((Below.mono HB5.out hbw).setCell (p := ⟨b, 2, none⟩) h0 _).setCell (p := ⟨b, 0, none⟩) h0 _)
theorem cut_ok (w : World) (base b : Nat) (f m : Int) (cs : List (El × Bool)) (i : Int) (h : LogAt w base b f m cs) (hF : Fit f m cs) (hbw : base ≤ w.heap.size) :
    Calls Try.prog 15 #[.pointer (some ⟨b, 0, none⟩), .int .i64 i] w fun e w' => e = .returned (.int .i64 (cutE f cs i)) ∧ LogAt w' base b (cutF f i) m (cutC f cs i) ∧ Below base w w' := by
  by_cases hc : cutI f i
  · rw [cutE, cutF, cutC, if_pos hc, if_pos hc, if_pos hc]
    refine (cut_none w base b f m cs i h hc).mono ?_
    rintro e w' ⟨rfl, rfl⟩
    exact ⟨rfl, h, Below.refl _ _⟩
  · rw [cutE, cutF, cutC, if_neg hc, if_neg hc, if_neg hc]
    exact cut_some w base b f m cs i h hF hbw hc

theorem now_ok (w : World) (base b : Nat) (f m : Int) (cs : List (El × Bool)) (h : LogAt w base b f m cs) (hF : Fit f m cs) :
    Calls Try.prog 56 #[.pointer (some ⟨b, 0, none⟩)] w fun e w' => ∃ v, e = .returned (.tuple #[.int .i64 f, v]) ∧ w'.ownsRow w.heap.size 77 2 v cs.length (flat cs) ∧ Below w.heap.size w w' := by
  obtain ⟨h0, a, c, h1, h2⟩ := h
  obtain ⟨c0, c1, c2, f0, f1, f2, hz⟩ := blk3 h1
  have hlen := hF.len; have hf1 := hF.f1; have hf2 := hF.f2; have hm2 := hF.m2
  obtain ⟨ao, cap, ev, hnil, hlie, _⟩ := owned_lie h2
  simp only [Value.slice.injEq, true_and] at ev
  obtain ⟨rfl, rfl⟩ := ev
  have hCl : Hid (∀ W, Below w.heap.size w W → Calls Try.prog 51 #[.slice a cs.length c] W (Gives W cs)) := fun W hW => clone_any cs a c W (by omega) hnil (hlie.below hW)
  clear hnil hlie h1 h2 c1 f0 f1 f2
  go_enter Try.func56, Try.ntmps56
  go_wp2_with fail
  go_region_with (first | (go_at_call 51; refine (hCl.out _ (below_drewN (Below.refl _ _) 1)).mono ?_; rintro e wn ⟨v, rfl, hv, hbn⟩; have hbw : Below w.heap.size w wn := below_step (below_drewN (Below.refl _ _) 1) hbn; have d0 := cell_step c0 hbw))
  all_goals go_wp2_with fail
  all_goals exact bodyPost_ret (v := .tuple #[.int .i64 f, v]) (by simp [results, Try.results56, go_sem]) rfl ⟨v, rfl, own_mono hv (Nat.le_refl _), hbw⟩
end Go.Proofs.Ytpnkohjppbgiaaa.logi
