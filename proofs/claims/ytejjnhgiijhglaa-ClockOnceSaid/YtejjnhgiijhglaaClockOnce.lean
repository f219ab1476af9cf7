/-
  ClockOnce: a timer that nobody stops or sets again is told just once, at its time, and not ahead of it.
-/
import Derived.Test.YtejjnhgiijhglaaClkR
import Derived.Test.YtejjnhgiijhglaaChecked
import Derived.Test.YtejjnhgiijhglaaRows
namespace Go.Proofs.Ytejjnhgiijhglaa.clockOnce
open Go.ChangeShapes Go.WideShapes Go.ChangeAt Go.RowKit Go.Joins Go.ChangeMaps
open Go.Proofs.Ytejjnhgiijhglaa.kit Go.Proofs.Ytejjnhgiijhglaa.mapkit Go.Proofs.Ytejjnhgiijhglaa.own Go.Proofs.Ytejjnhgiijhglaa.heapp Go.Proofs.Ytejjnhgiijhglaa.clkp Go.Proofs.Ytejjnhgiijhglaa.clks Go.Proofs.Ytejjnhgiijhglaa.clkt Go.Proofs.Ytejjnhgiijhglaa.clkr
set_option linter.unusedVariables false
set_option linter.unusedSimpArgs false
set_option maxHeartbeats 1000000
set_option maxRecDepth 100000

/-- The timer is there up to its time, and not from then on. -/
def Al (B : CkS) (n : ByteArray) (d : Int) : Prop := (B.now < d → ∃ t ∈ B.s, t.nm = n ∧ t.due = d) ∧ (d ≤ B.now → has B.s n = false)
theorem uniq {s : List T3} (h : s.Pairwise (fun a b => a.nm ≠ b.nm)) {t u : T3} (ht : t ∈ s) (hu : u ∈ s) (e : t.nm = u.nm) : t = u := by
  induction s with
  | nil => simp at ht
  | cons x q ih =>
    have hx := List.pairwise_cons.1 h
    rcases List.mem_cons.1 ht with e1 | ht1
    · rcases List.mem_cons.1 hu with e2 | hu1
      · rw [e1, e2]
      · rw [e1] at e
        exact absurd e (hx.1 u hu1)
    · rcases List.mem_cons.1 hu with e2 | hu1
      · rw [e2] at e
        exact absurd e.symm (hx.1 t ht1)
      · exact ih hx.2 ht1 hu1
theorem al_tick {B : CkS} {n : ByteArray} {d : Int} (h : Al B n d) (ho : Ok B) : Al (tickS B) n d := by
  refine ⟨fun hd => ?_, fun hd => ?_⟩
  · have hd : B.now + 1 < d := hd
    obtain ⟨t, ht, e1, e2⟩ := h.1 (by omega)
    exact ⟨t, List.mem_filter.2 ⟨ht, decide_eq_true (by omega)⟩, e1, e2⟩
  · have hd : d ≤ B.now + 1 := hd
    cases hh : has (tickS B).s n with
    | false => rfl
    | true =>
      obtain ⟨u, hu, e⟩ := has_iff.1 hh
      obtain ⟨hu1, hu2⟩ := List.mem_filter.1 hu
      simp only [decide_eq_true_eq] at hu2
      by_cases hn : B.now < d
      · obtain ⟨t, ht, e1, e2⟩ := h.1 hn
        have := uniq ho.nod ht hu1 (by rw [e1, e])
        subst this
        omega
      · have h3 := h.2 (by omega)
        have h4 : has B.s n = true := has_iff.2 ⟨u, hu1, e⟩
        rw [h3] at h4; cases h4
def cntN (l : List ByteArray) (n : ByteArray) : Nat := (l.filter (fun x => decide (x = n))).length
theorem cnt_snoc (l : List ByteArray) (n : ByteArray) (k : Nat) (hk : k < l.length) : cntN (l.take (k + 1)) n = cntN (l.take k) n + if l[k] = n then 1 else 0 := by
  unfold cntN
  rw [List.take_succ_eq_append_getElem hk, List.filter_append, List.length_append]
  by_cases h : l[k] = n <;> simp [h]
open Classical in
theorem cnt_nodup {l : List ByteArray} (n : ByteArray) (h : l.Pairwise (fun a b => a ≠ b)) : cntN l n = if n ∈ l then 1 else 0 := by
  induction l with
  | nil => simp [cntN]
  | cons x l ih =>
    have hc := List.pairwise_cons.1 h
    have ih := ih hc.2
    unfold cntN at ih ⊢
    by_cases e : x = n
    · subst e
      have hn : x ∉ l := fun hx => hc.1 x hx rfl
      rw [if_neg hn] at ih
      rw [List.filter_cons_of_pos (by simp), List.length_cons, ih]
      simp
    · rw [List.filter_cons_of_neg (by simpa using e), ih]
      have e' : ¬ n = x := fun h => e h.symm
      simp [List.mem_cons, e']
theorem al_cnt {B : CkS} {n : ByteArray} {d : Int} (h : Al B n d) (ho : Ok B) : cntN (told B) n = if B.now + 1 = d then 1 else 0 := by
  have hp : (told B).Pairwise (fun a b => a ≠ b) := List.pairwise_map.2 (ho.nod.filter _)
  have hkey : n ∈ told B ↔ B.now + 1 = d := by
    refine ⟨fun hm => ?_, fun hd => ?_⟩
    · obtain ⟨t, ht, e⟩ := List.mem_map.1 hm
      obtain ⟨ht1, ht2⟩ := List.mem_filter.1 ht
      simp only [decide_eq_true_eq] at ht2
      by_cases hn : B.now < d
      · obtain ⟨u, hu, e1, e2⟩ := h.1 hn
        have := uniq ho.nod hu ht1 (by rw [e1, e])
        subst this
        omega
      · have h3 := h.2 (by omega)
        have h4 : has B.s n = true := has_iff.2 ⟨t, ht1, e⟩
        rw [h3] at h4; cases h4
    · obtain ⟨t, ht, e1, e2⟩ := h.1 (by omega)
      exact List.mem_map.2 ⟨t, List.mem_filter.2 ⟨ht, decide_eq_true (by omega)⟩, e1⟩
  rw [cnt_nodup n hp]
  by_cases hd : B.now + 1 = d
  · rw [if_pos (hkey.2 hd), if_pos hd]
  · rw [if_neg (fun h => hd (hkey.1 h)), if_neg hd]
theorem al_some {B : CkS} {n : ByteArray} {d : Int} (h : Al B n d) (ho : Ok B) : (dueS B n).isSome = decide (B.now < d) := by
  by_cases hn : B.now < d
  · obtain ⟨t, ht, e1, e2⟩ := h.1 hn
    have h1 := dues_find ho ht
    rw [e1] at h1
    rw [h1, decide_eq_true hn]; rfl
  · rw [dues_none (h.2 (by omega)), decide_eq_false hn]; rfl
theorem al_set {A : CkS} {n : ByteArray} {i : Int} (hE : setE A n i = 0) : Al (setS A n i) n (A.now + i) ∧ ∃ t ∈ (setS A n i).s, t.nm = n ∧ t.due = A.now + i := by
  have h2 := (set0 hE).2.1
  have hS : setS A n i = ⟨A.now, A.turns + 1, ins (rm A.s n) ⟨n, A.now + i, A.turns + 1⟩⟩ := by rw [setS, if_pos hE]
  rw [hS]
  have hm : ∃ t ∈ ins (rm A.s n) ⟨n, A.now + i, A.turns + 1⟩, t.nm = n ∧ t.due = A.now + i := ⟨_, mem_ins.2 (.inl rfl), rfl, rfl⟩
  exact ⟨⟨fun _ => hm, fun hd => by have hd : A.now + i ≤ A.now := hd; omega⟩, hm⟩

theorem once_ok (w : World) (a : Option Addr) (l : List OpC) (cap : Nat) (hl : l.length ≤ 4398046511103) (hat : RowsAt w a 3 (l.map ocells)) (hok : ∀ k (hk : k < l.length), (l[k]).ok) (n : ByteArray) (hn : n.size ≤ maxLen) (i : Int) :
    Calls Try.prog 3 #[.slice a l.length cap, .string n, .int .i64 i] w fun e w' => e = .returned (.bool true) ∧ Below w.heap.size w w' := by
  have HRAN := Lib.hid (ran_ok w a l cap hl hat hok)
  have hG := good_st l good_start
  rw [Nat.zero_add] at hG
  obtain ⟨A, hA⟩ : ∃ A, A = stC clkp.start l := ⟨_, rfl⟩
  rw [← hA] at HRAN hG
  have HG := Lib.hid hG
  have HNM := Lib.hid hn
  have hnl : n.size ≤ 9223372036854775807 := by unfold maxLen at hn; omega
  clear hat hok hA hG hn
  go_enter Try.func3, Try.ntmps3
  go_wp2_with fail
  refine HRAN.out.mono ?_; rintro e w1 ⟨cb, mb, rfl, h1, hb1⟩
  have H1 := Lib.hid h1
  have HB1 := Lib.hid hb1
  clear h1 hb1 HRAN
  go_wp2_with fail
  refine (awake_ok w1).mono ?_; rintro e w2 ⟨rfl, hb2⟩
  have H2 := Lib.hid (H1.out.below hb2)
  have HB2 := Lib.hid (below_step HB1.out hb2)
  clear hb2 H1 HB1
  go_wp2_with fail
  refine (now_ok w2 _ cb mb A H2.out).mono ?_; rintro e w3 ⟨rfl, rfl⟩
  have HSET := Lib.hid (set_ok w2 w.heap.size cb mb A n i H2.out HB2.out.size HNM.out (by have := HG.out.turns; omega))
  have hlom := H2.out.lom
  have hnum := H2.out.ok.num
  have hnowl : A.now ≤ 4398046511103 := by have := HG.out.now; omega
  by_cases hE : setE A n i = 0
  case neg =>
    have hwhy : setE A n i = 3 ∨ setE A n i = 1 ∧ (n.size < 1 ∨ 16 < n.size ∨ i < 1 ∨ 2147483647 < i) := by
      rw [setE]
      split
      · exact .inr ⟨rfl, by assumption⟩
      · rename_i h1
        split
        · exact .inl rfl
        · rename_i h2
          exact absurd (by rw [setE, if_neg h1, if_neg h2]) hE
    have HEND : Hid (∀ w', Keep (CM w2 w.heap.size mb) w2 w' → Below w.heap.size w w') := fun w' hk => HB2.out.trans (cm_below hk hlom HB2.out.size)
    rcases hwhy with h3 | ⟨h3, hw⟩
    · rw [h3] at HSET
      clear hE h3 hnum hnowl
      go_wp2_with fail
      refine HSET.out.mono ?_; rintro e w4 ⟨rfl, -, hk4⟩
      have HB4 := Lib.hid (HEND.out w4 hk4)
      clear hk4 HSET
      go_wp2_with fail
      go_ret
      exact ⟨rfl, HB4.out⟩
    · rw [h3] at HSET
      clear hE h3 hnum hnowl
      by_cases c1 : n.size < 1
      · have d1 : (n.size : Int) < 1 := by omega
        clear hw
        go_wp2_with fail
        refine HSET.out.mono ?_; rintro e w4 ⟨rfl, -, hk4⟩
        have HB4 := Lib.hid (HEND.out w4 hk4)
        clear hk4 HSET
        go_wp2_with fail
        go_ret
        exact ⟨by first | rfl | simp, HB4.out⟩
      have d1 : ¬ (n.size : Int) < 1 := by omega
      have d1' : decide ((n.size : Int) < 1) = false := decide_eq_false d1
      by_cases c2 : 16 < n.size
      · have d2 : (16 : Int) < (n.size : Int) := by omega
        have d2' : decide ((16 : Int) < (n.size : Int)) = true := decide_eq_true d2
        clear hw
        go_wp2_with fail
        refine HSET.out.mono ?_; rintro e w4 ⟨rfl, -, hk4⟩
        have HB4 := Lib.hid (HEND.out w4 hk4)
        clear hk4 HSET
        go_wp2_with fail
        go_ret
        exact ⟨by first | rfl | simp, HB4.out⟩
      have d2 : ¬ (16 : Int) < (n.size : Int) := by omega
      have d2' : decide ((16 : Int) < (n.size : Int)) = false := decide_eq_false d2
      by_cases c3 : i < 1
      · have d3 : decide (i < 1) = true := decide_eq_true c3
        clear hw
        go_wp2_with fail
        refine HSET.out.mono ?_; rintro e w4 ⟨rfl, -, hk4⟩
        have HB4 := Lib.hid (HEND.out w4 hk4)
        clear hk4 HSET
        go_wp2_with fail
        go_ret
        exact ⟨by first | rfl | simp, HB4.out⟩
      have d3 : decide (i < 1) = false := decide_eq_false c3
      have c4 : 2147483647 < i := by omega
      have d4 : decide (2147483647 < i) = true := decide_eq_true c4
      clear hw
      go_wp2_with fail
      refine HSET.out.mono ?_; rintro e w4 ⟨rfl, -, hk4⟩
      have HB4 := Lib.hid (HEND.out w4 hk4)
      clear hk4 HSET
      go_wp2_with fail
      go_ret
      exact ⟨by first | rfl | simp, HB4.out⟩
  rw [hE] at HSET
  obtain ⟨hal, t, htm, htn, htd⟩ := al_set hE
  have hi := (set0 hE).2.1
  have hSN : (setS A n i).now = A.now := by rw [setS, if_pos hE]
  have hF0 : Fut (setS A n i) := fut_set HG.out.fut n i
  obtain ⟨B0, hB0⟩ : ∃ B0, B0 = setS A n i := ⟨_, rfl⟩
  rw [← hB0] at HSET hal htm hSN hF0
  obtain ⟨nw, hnw⟩ : ∃ x, x = A.now := ⟨_, rfl⟩
  rw [← hnw] at hal htd hSN hnum hnowl ⊢
  have HAL := Lib.hid hal
  have HSN := Lib.hid hSN
  have HF0 := Lib.hid hF0
  have HDU : Hid (Ok B0 → dueS B0 n = some (nw + i)) := fun ho => by
    have h9 := dues_find ho htm
    rw [htn, htd] at h9
    exact h9
  have hw1 : IntKind.i64.wrap (nw + i) = nw + i := IntWalk.i64_in _ (by omega)
  have hn0 := hnum.1.1
  clear hE hal t htm htn htd hSN hF0 hB0 hnw hnum
  go_wp2_with fail
  refine HSET.out.mono ?_; rintro e w4 ⟨rfl, h4, hk4⟩
  have HB4 := Lib.hid (HB2.out.trans (cm_below hk4 hlom HB2.out.size))
  have H4 := Lib.hid h4
  have hdu := due_ok w4 w.heap.size cb mb B0 n h4 HNM.out
  rw [HDU.out h4.ok] at hdu
  simp only [Option.getD_some, Option.isSome_some] at hdu
  have HDUE := Lib.hid hdu
  clear h4 hk4 HSET hdu HB2 H2 HDU
  go_wp2_with fail
  refine HDUE.out.mono ?_; rintro e w5 ⟨rfl, rfl⟩
  go_wp2_with fail
  go_loopw [12] (fun iv wr => ∃ (j : Nat) (B : CkS), iv = .int .i64 ((j : Int) + 1) ∧ j ≤ 200 ∧ Hid (B.now = nw + j) ∧ Hid (Fut B) ∧ Hid (Al B n (nw + i)) ∧ Hid (ClkIs wr w.heap.size cb mb B) ∧ Hid (Below w.heap.size w wr)) (fun iv _ => 202 - (intOf iv).toNat)
  case atStart => exact ⟨0, B0, rfl, by omega, (by rw [Hid, HSN.out]; simp), HF0, HAL, H4, HB4⟩
  case round =>
    obtain ⟨j, B, rfl, hj, HNOW, HF, HA, HC, HB⟩ := hrel
    have hio : (i : Int) + 2 ≤ 2147483649 := by omega
    by_cases hgo : (j : Int) + 1 ≤ 200 ∧ (j : Int) + 1 ≤ i + 2
    case neg =>
      have hexit : decide ((j : Int) + 1 ≤ 200) = false ∨ (decide ((j : Int) + 1 ≤ 200) = true ∧ decide ((j : Int) + 1 ≤ i + 2) = false) := by
        by_cases h1 : (j : Int) + 1 ≤ 200
        · exact .inr ⟨decide_eq_true h1, decide_eq_false (fun h2 => hgo ⟨h1, h2⟩)⟩
        · exact .inl (decide_eq_false h1)
      obtain ⟨m, hm⟩ : ∃ m : Nat, m = j + 1 := ⟨_, rfl⟩
      have hme : (j : Int) + 1 = (m : Int) := by rw [hm]; omega
      have hm201 : m ≤ 201 := by omega
      rw [hme] at hexit ⊢
      clear hgo hme hm hj
      rcases hexit with h1 | ⟨h1, h2⟩
      all_goals
        go_wp2_with fail
        go_ret
        exact ⟨rfl, HB.out⟩
    obtain ⟨hg1, hg2⟩ := hgo
    obtain ⟨m, hm⟩ : ∃ m : Nat, m = j + 1 := ⟨_, rfl⟩
    have hme : (j : Int) + 1 = (m : Int) := by rw [hm]; omega
    have hm200 : m ≤ 200 := by omega
    have hm1 : 1 ≤ m := by omega
    rw [hme] at hg1 hg2 ⊢
    have g1 : decide ((m : Int) ≤ 200) = true := decide_eq_true hg1
    have g2 : decide ((m : Int) ≤ i + 2) = true := decide_eq_true hg2
    have hOK := HC.out.ok
    have HTK := Lib.hid (tick_ok wr w.heap.size cb mb B HC.out HB.out.size HF.out (by have := HNOW.out; omega))
    have HCNT : Hid (cntN (told B) n = if (m : Int) = i then 1 else 0) := by
      rw [Hid, al_cnt HA.out hOK]
      have h1 := HNOW.out
      by_cases h2 : (m : Int) = i
      · rw [if_pos h2, if_pos (by omega)]
      · rw [if_neg h2, if_neg (by omega)]
    have HAT := Lib.hid (al_tick HA.out hOK)
    have HNT : Hid ((tickS B).now = nw + m) := by show B.now + 1 = nw + m; have := HNOW.out; omega
    have HTL : Hid ((told B).length ≤ 64) := by
      have h1 : (told B).length ≤ B.s.length := by unfold told; rw [List.length_map]; exact List.length_filter_le _ _
      exact Nat.le_trans h1 hOK.len
    have HM := Lib.hid hm
    clear hm hme hOK hj
    go_wp2_with fail
    refine HTK.out.mono ?_; rintro e w6 ⟨a6, c6, rfl, hr6, h6, hk6⟩
    have HB6 := Lib.hid (HB.out.trans (cm_below hk6 hlom HB.out.size))
    have H6 := Lib.hid h6
    have HR6 := Lib.hid hr6
    have HCS := Lib.hid (cnt_snoc (told B) n)
    obtain ⟨tl, htl⟩ : ∃ x, x = told B := ⟨_, rfl⟩
    rw [← htl] at HR6 HTL HCNT HCS ⊢
    have htl64 : tl.length ≤ 64 := HTL.out
    clear hr6 h6 hk6 HTK HC htl
    go_wp2_with fail
    go_loopw [14, 15] (fun cv kv wx => ∃ k : Nat, k ≤ tl.length ∧ kv = .int .i64 k ∧ cv = .int .i64 (cntN (tl.take k) n) ∧ cntN (tl.take k) n ≤ k ∧ wx = w6) (fun _ kv _ => tl.length - (intOf kv).toNat)
    case atStart => exact ⟨0, Nat.zero_le _, rfl, rfl, Nat.le_refl _, rfl⟩
    case round =>
      obtain ⟨k, hk, rfl, rfl, hck, rfl⟩ := hrel
      by_cases hkl : k < tl.length
      · obtain ⟨g6, rfl⟩ := own_ptr HR6.out (by omega)
        have x0 := str_cell HR6.out hkl
        have hgz := (own_from HR6.out g6 rfl).2
        have hcs := HCS.out k hkl
        obtain ⟨x, hx⟩ : ∃ x, x = tl[k] := ⟨_, rfl⟩
        rw [← hx] at x0 hcs
        have heq : (x.toList == n.toList) = decide (x = n) := eqN x n
        obtain ⟨ct, hct⟩ : ∃ x, x = cntN (tl.take k) n := ⟨_, rfl⟩
        rw [← hct] at hcs hck ⊢
        clear hx hct
        by_cases hxn : x = n
        · rw [decide_eq_true hxn] at heq
          rw [if_pos hxn] at hcs
          have HCS1 := Lib.hid hcs
          clear hxn hcs
          go_wp2_with fail
          go_roundw
          case rel => exact ⟨k + 1, by omega, by go_num, by rw [HCS1.out]; go_num, by rw [HCS1.out]; omega, by first | trivial | rfl⟩
          case measure => simp [intOf]; omega
        · rw [decide_eq_false hxn] at heq
          rw [if_neg hxn] at hcs
          have HCS1 := Lib.hid hcs
          clear hxn hcs
          go_wp2_with fail
          go_roundw
          case rel => exact ⟨k + 1, by omega, by go_num, by rw [HCS1.out]; go_num, by rw [HCS1.out]; omega, by first | trivial | rfl⟩
          case measure => simp [intOf]; omega
      · obtain rfl : k = tl.length := by omega
        rw [List.take_length] at hck ⊢
        have hdu := due_ok wr w.heap.size cb mb (tickS B) n H6.out HNM.out
        have hso := al_some HAT.out H6.out.ok
        rw [HNT.out] at hso
        have hnw := now_ok wr w.heap.size cb mb (tickS B) H6.out
        rw [HNT.out] at hnw
        obtain ⟨dv, hdv⟩ : ∃ x, x = (dueS (tickS B) n).getD 0 := ⟨_, rfl⟩
        rw [hso, ← hdv] at hdu
        have hw9 : IntKind.i64.wrap (nw + m) = nw + m := IntWalk.i64_in _ (by omega)
        have HREL : Hid ((j : Int) + 1 + 1 = (m : Int) + 1) := by have := HM.out; simp only [Hid]; omega
        clear hso hdv
        rcases Int.lt_trichotomy (m : Int) i with h1 | h1 | h1
        case' inl =>
          rw [show decide (nw + (m : Int) < nw + i) = true from decide_eq_true (by omega)] at hdu
          have hcn : cntN tl n = 0 := by rw [HCNT.out, if_neg (by omega)]
          have e1 : ((m : Int) == i) = false := by simp; omega
          have e2 : decide ((m : Int) < i) = true := decide_eq_true h1
        case' inr.inl =>
          rw [show decide (nw + (m : Int) < nw + i) = false from decide_eq_false (by omega)] at hdu
          have hcn : cntN tl n = 1 := by rw [HCNT.out, if_pos h1]
          have e1 : ((m : Int) == i) = true := by simp; omega
          have e2 : decide ((m : Int) < i) = false := decide_eq_false (by omega)
        case' inr.inr =>
          rw [show decide (nw + (m : Int) < nw + i) = false from decide_eq_false (by omega)] at hdu
          have hcn : cntN tl n = 0 := by rw [HCNT.out, if_neg (by omega)]
          have e1 : ((m : Int) == i) = false := by simp; omega
          have e2 : decide ((m : Int) < i) = false := decide_eq_false (by omega)
        all_goals
          rw [hcn]
          have HD := Lib.hid hdu
          have HN := Lib.hid hnw
          clear hdu hnw hcn h1 hck
          go_wp2_with fail
          refine HD.out.mono ?_; rintro e w7 ⟨rfl, rfl⟩
          go_wp2_with fail
          refine HN.out.mono ?_; rintro e w8 ⟨rfl, rfl⟩
          go_wp2_with fail
          go_roundw
          case rel => exact ⟨m, tickS B, by go_num, by omega, HNT, (fut_tick B), HAT, H6, HB6⟩
          case measure => simp [intOf]; omega

theorem lawWalk {H : Type} (enc : TypeId × Value → H) : LawWalk enc Try.prog 3 Try.f3 (fun _ => True) := by
  intro W base args ds p hval hA hsz _
  rw [Try.params3] at hA hval hsz
  obtain ⟨v0, vs0, d0, ds0, p0, q0, hargs, rfl, rfl, h0, r0⟩ := trodAll_cons hA
  obtain ⟨v1, vs1, d1, ds1, p1, q1, rfl, rfl, rfl, h1, r1⟩ := trodAll_cons r0
  obtain ⟨v2, vs2, d2, ds2, p2, q2, rfl, rfl, rfl, h2, r2⟩ := trodAll_cons r1
  obtain ⟨rfl, rfl, rfl⟩ := trodAll_nil r2
  obtain rfl : args = #[v0, v1, v2] := Array.toList_inj.1 hargs
  obtain ⟨a, l, cap, es, sp, rfl, hlc, hcm, hn, hat, hd, hel, hsp, hgood⟩ := open_slice_gen 3 ocells (fun o _ => o.ok) Try.underlying22 (by kernel_rfl) (by omega) (fun n cs y _ h => elem_op n cs y h) (hval 0 22 v0 rfl rfl) h0
  obtain ⟨s, rfl, rfl, rfl, ws⟩ := open_string Try.underlying9 (hval 1 9 v1 rfl rfl) h1
  obtain ⟨n, rfl, rfl, rfl, w2⟩ := open_int Try.underlying3 (hval 2 3 v2 rfl rfl) h2
  refine once_ok W a l cap ?_ hat (fun k hk => hgood k hk (by omega)) s ws n
  rcases hd with ⟨_, rfl, _, _⟩ | rfl
  · exact Nat.zero_le _
  · have := many_c (j := 0) hsz rfl rfl
    omega

theorem own : ownKnob Try.prog.godebug = none := by kernel_rfl
theorem laidOut : laidOutB Try.prog = true := by kernel_rfl

set_option maxRecDepth 100000 in
theorem lifted (os : Os) (started : os.Started) (H : Type) (enc : TypeId × Value → H) :
    ReturnsInHanded {} Try.checked os 3 .any (Rows.clockOnceSpec.pre6 enc Try.prog Try.f3 Rows.clockOnceRow.domain false) (Rows.clockOnceSpec.post enc Try.prog Try.f3 false true false false) := by
  refine returnsInHanded_of_change_sized (C := Try.checked) own started (by kernel_rfl) Try.func3
    (ChangeSpec.witness6 (enc := enc) (C := Try.checked) false ⟨#[], #[.slice none 0 0, .string ByteArray.empty, .int .i64 0], []⟩ 8 (by kernel_rfl) (by kernel_rfl) (by kernel_rfl) (by kernel_rfl)) ?_
  intro W base args ds gs before hval hW hcnd hsz _
  exact law_post (C := Try.checked) laidOut (fun ds h => by match ds, h with | [_, _, _], _ => rfl) 4 rfl Try.underlying4 rfl (by kernel_rfl) hval hW hsz trivial (lawWalk enc)

theorem proved : Rows.ClockOnceSaid :=
  OpenClaim.holds_of_wide 3 Try.f3 rfl rfl rfl rfl rfl rfl rfl ⟨rfl, rfl, rfl, rfl, rfl⟩ rfl rfl rfl rfl rfl (by kernel_rfl) Try.func3 (by kernel_rfl)
    (of_decide_eq_true (by kernel_rfl)) (by unfold Func.isWrapper; first | (rw [if_pos (by decide +kernel)]; kernel_rfl) | (rw [if_neg (by decide +kernel)]; exact ⟨rfl, rfl⟩))
    (fun os started H enc _ => lifted os started H enc)
#print axioms proved
end Go.Proofs.Ytejjnhgiijhglaa.clockOnce
