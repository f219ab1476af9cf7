/-
  A clock in memory: Names.
-/
import Derived.Test.YtejjnhgiijhglaaClkSo
namespace Go.Proofs.Ytejjnhgiijhglaa.clknm
open Go.ChangeShapes Go.WideShapes Go.ChangeAt Go.RowKit Go.Shelf Go.Sort
open Go.Proofs.Ytejjnhgiijhglaa.kit Go.Proofs.Ytejjnhgiijhglaa.mapkit Go.Proofs.Ytejjnhgiijhglaa.own Go.Proofs.Ytejjnhgiijhglaa.clk Go.Proofs.Ytejjnhgiijhglaa.heapp Go.Proofs.Ytejjnhgiijhglaa.clkq Go.Proofs.Ytejjnhgiijhglaa.clkn Go.Proofs.Ytejjnhgiijhglaa.clkso Go.Proofs.Ytejjnhgiijhglaa.clks Go.Proofs.Ytejjnhgiijhglaa.clkt
open Go.Proofs.Ytejjnhgiijhglaa.clkp (t3 T3 lt3 CkS)
set_option linter.unusedVariables false
set_option linter.unusedSimpArgs false
set_option maxHeartbeats 1000000
set_option maxRecDepth 100000

theorem sorted_ok (B hi : Nat) (a : Option Addr) (c : Nat) (q : List Tm) (w : World) (hB : B < hi) (hhi : hi ≤ w.heap.size) (hl : q.length ≤ 64)
    (h1 : w.cell? ⟨B, 0, none⟩ = some (.slice a q.length c)) (h4 : ∀ k (hk : k < q.length), ∃ g, a = some ⟨g, 0, none⟩ ∧ g < hi ∧ w.cell? ⟨g, k, none⟩ = some (ptr q[k]))
    (htm : ∀ t ∈ q, Num t ∧ ∃ i, TAt w t i) (hdis : ∀ t ∈ q, ∀ u ∈ q, ¬ lt t u → ¬ lt u t → t = u) :
    Calls Try.prog 26 #[.func (.func 34) #[] #[.pointer (some ⟨B, 0, none⟩)], .func (.func 28) #[] #[]] w fun e w' =>
      ∃ (a' : Option Addr) (c' : Nat) (r : List Tm), e = .returned (.slice a' q.length c') ∧ r.Perm q ∧ r.Pairwise (fun t u => ¬ lt u t) ∧ w'.ownsRow w.heap.size 52 1 (.slice a' q.length c') q.length (r.map ptr) ∧ Below w.heap.size w w' := by
  have HC := Lib.hid (collect_ok B hi a c q w hB hhi hl h1 h4)
  have HT := Lib.hid htm
  have HD := Lib.hid hdis
  clear h1 h4 htm hdis
  go_enter Try.func26, Try.ntmps26
  go_wp2_with fail
  refine HC.out.mono ?_; rintro e w1 ⟨v, rfl, ho, hb⟩
  obtain ⟨a', c', rfl⟩ := own_shape ho
  have HS := Lib.hid (sort_ok w1 w.heap.size c' a' q hl ho hb.size (fun t ht => by
    obtain ⟨h1, i, h2⟩ := HT.out t ht
    exact ⟨h1, i, hp_step h2 hb⟩) HD.out)
  have HB := Lib.hid hb
  clear ho hb
  go_wp2_with fail
  refine HS.out.mono ?_; rintro e w2 ⟨rfl, r, hp, hs, hr, hb2⟩
  have HP := Lib.hid hp
  have HPS := Lib.hid hs
  have HR := Lib.hid hr
  have HB2 := Lib.hid (HB.out.trans hb2)
  clear hp hs hr hb2
  go_wp2_with fail
  go_ret
  exact ⟨a', c', r, rfl, HP.out, HPS.out, HR.out, HB2.out⟩

theorem lt_t3 (t u : Tm) : lt t u ↔ lt3 (t3 t) (t3 u) := Iff.rfl
theorem q_dis {q : List Tm} {A : CkS} (hp : (q.map t3).Perm A.s) (ho : clkp.Ok A) : ∀ t ∈ q, ∀ u ∈ q, ¬ lt t u → ¬ lt u t → t = u := by
  intro t ht u hu h1 h2
  have hsd : A.s.Pairwise (fun a b => lt3 a b) := ho.srt
  have e : t3 t = t3 u := by
    obtain ⟨i, hi, e1⟩ := List.getElem_of_mem (q_mem hp ht)
    obtain ⟨j, hj, e2⟩ := List.getElem_of_mem (q_mem hp hu)
    rcases Nat.lt_trichotomy i j with h | h | h
    · have := List.pairwise_iff_getElem.1 hsd i j hi hj h
      rw [e1, e2] at this
      exact absurd this h1
    · subst h
      rw [← e1, ← e2]
    · have := List.pairwise_iff_getElem.1 hsd j i hj hi h
      rw [e1, e2] at this
      exact absurd this h2
  exact clkp.nod_eq (q_nod hp ho) ht hu (congrArg T3.nm e)

theorem names_ok (w : World) (base cb mb : Nat) (A : CkS) (h : ClkIs w base cb mb A) :
    Calls Try.prog 17 #[.pointer (some ⟨cb, 0, none⟩)] w fun e w' => ∃ (a : Option Addr) (c : Nat), e = .returned (.slice a A.s.length c) ∧
      w'.ownsRow w.heap.size 9 1 (.slice a A.s.length c) A.s.length (names A.s) ∧ Below w.heap.size w w' := by
  obtain ⟨j0, hj, hy0, hy1, hy2⟩ := info_parts infoStr
  obtain ⟨h1, hok, a, c, q, hq, hhp, hp, hm⟩ := h
  obtain ⟨cc, cf, hzc⟩ := kit.blk hq.blk
  have c2 : w.cell? ⟨cb, 2, none⟩ = some (.slice a q.length c) := cc 2
  have hql : q.length = A.s.length := q_len hp
  have hl64 : q.length ≤ 64 := by have := hok.len; omega
  have HDIS := Lib.hid (q_dis hp hok)
  have HQ := Lib.hid hq
  have HP := Lib.hid hp
  have HOK := Lib.hid hok
  have HQL := Lib.hid hql
  clear hq hp hm hhp cc hql hok
  go_enter Try.func17, Try.ntmps17
  go_wp2_with fail
  refine (values_ok a q.length c w).mono ?_; rintro e w1 ⟨rfl, hw1⟩
  have hb1 : Below w.heap.size w w1 := by rw [hw1]; exact below_new1 w _
  have hz1 : w1.heap.size = w.heap.size + 1 := by rw [hw1, size_new]
  have k1 : w1.cell? ⟨w.heap.size, 0, none⟩ = some (.slice a q.length c) := by rw [hw1]; exact (blk1 (hp_alloc_new w _)).1
  have HS := Lib.hid (sorted_ok w.heap.size (w.heap.size + 1) a c q w1 (by omega) (by omega) hl64 k1 (fun k hk => by
      obtain ⟨g, rfl⟩ := own_ptr HQ.out.row (by omega)
      refine ⟨g, rfl, by have := (own_from HQ.out.row g rfl).2; omega, cell_step (pt_cell HQ.out.row hk).1 hb1⟩) (fun t ht => by
      obtain ⟨i, hi, rfl⟩ := List.getElem_of_mem ht
      exact ⟨HQ.out.num _ ht, i, hp_step (HQ.out.tms i hi) hb1⟩) HDIS.out)
  have HB1 := Lib.hid hb1
  clear hw1 k1 hb1
  go_wp2_with fail
  refine HS.out.mono ?_; rintro e w2 ⟨a', c', r, rfl, hrp, hrs, hrr, hb2⟩
  have HB2 := Lib.hid (below_step HB1.out hb2)
  have hrl : r.length = q.length := hrp.length_eq
  have hre : r.map t3 = A.s := perm_eq ((hrp.map t3).trans HP.out) HOK.out.srt (by rw [List.pairwise_map]; exact hrs)
  have HRE := Lib.hid hre
  have HTM : Hid (∀ k (hk : k < r.length), ∃ i, TAt w2 r[k] i) := fun k hk => by
    obtain ⟨i, hi, e⟩ := List.getElem_of_mem (hrp.mem_iff.1 (List.getElem_mem hk))
    rw [← e]
    exact ⟨i, hp_step (HQ.out.tms i hi) HB2.out⟩
  rw [← hrl] at hrr hl64 ⊢
  have HR := Lib.hid hrr
  have HRL := Lib.hid hrl
  have hz2 : w.heap.size ≤ w2.heap.size := HB2.out.size
  clear hrp hrs hrr hb2 hre HDIS HS HP hrl c2
  go_wp2_with fail
  go_loopw [3, 15] (fun lv kv wr => ∃ (k : Nat) (al : Option Addr) (cl : Nat), k ≤ r.length ∧ kv = .int .i64 k ∧ lv = .slice al k cl ∧ Hid (wr.ownsRow w2.heap.size 9 1 (.slice al k cl) k (names (A.s.take k))) ∧ Hid (Below w2.heap.size w2 wr)) (fun _ kv _ => r.length - (intOf kv).toNat)
  case atStart => exact ⟨0, none, 0, Nat.zero_le _, rfl, rfl, World.ownsRow_nil _ _ _ _, Below.refl _ _⟩
  case round =>
    obtain ⟨k, al, cl, hk, rfl, rfl, HO, HB⟩ := hrel
    by_cases hlt : k < r.length
    · obtain ⟨g, rfl⟩ := own_ptr HR.out (by omega)
      have x0 := cell_step (pt_cell HR.out hlt).1 HB.out
      have hgz : g < wr.heap.size := Nat.lt_of_lt_of_le (own_from HR.out g rfl).2 HB.out.size
      obtain ⟨i, ht⟩ := HTM.out k hlt
      have ht' := hp_step ht HB.out
      obtain ⟨t1, t2, t3'⟩ := kit.blk ht'
      have y0 : wr.cell? ⟨r[k].tb, 0, none⟩ = some (.string r[k].nm) := t1 0
      have HN : Hid (names (A.s.take (k + 1)) = names (A.s.take k) ++ [.string r[k].nm]) := by
        simp only [Hid, names]
        rw [← HRE.out, ← List.map_take, ← List.map_take, List.take_succ_eq_append_getElem hlt, List.map_append, List.map_append]
        rfl
      obtain ⟨t, htt⟩ : ∃ t, t = r[k] := ⟨_, rfl⟩
      rw [← htt] at x0 y0 HN t3'
      clear t1 t2 ht ht' htt
      have hzw : w2.heap.size ≤ wr.heap.size := HB.out.size
      go_wp2_with (at_builtin; refine wpl_append rfl (.tmp 19) (.tmp 24) 31 rfl w2.heap.size 9 j0 _ 1 16 Try.underlying31 hj hy0 hy1 hy2 rfl (by decide) (.slice al k cl) k (names (A.s.take k)) rfl (HO.out.alloc _) (some ⟨wr.heap.size, 0, none⟩) 1 1 [.string t.nm] rfl (by simp) rfl ?hL (by simp [Value.oneCell']) (by unfold maxLen; omega) (by omega) ?hB ?_)
      case hL => exact .inr ⟨_, 0, rfl, by rw [size_new]; omega, fun i hi => by
        have hb := (kit.blk (hp_alloc_new wr (.cells #[.string t.nm] 9))).1 0
        match i, hi with | 0, _ => exact hb⟩
      case hB => rw [size_new]; omega
      intro v5 w5 hown hgr
      obtain ⟨a5, c5, rfl⟩ := own_shape hown
      have HB5 : Hid (Below w2.heap.size w2 w5) := (below_step HB.out (below_new1 wr _)).grown hgr (by rw [size_new]; omega) (fun j hj => (HO.out.lt j hj).1)
      rw [← HN.out] at hown
      have HO5 := Lib.hid hown
      clear hown hgr
      go_wp2_with fail
      go_roundw
      case rel => exact ⟨k + 1, a5, c5, by omega, by go_num, rfl, HO5.out, HB5.out⟩
      case measure => simp [intOf]; omega
    · obtain rfl : k = r.length := by omega
      go_wp2_with fail
      go_ret
      have hls : r.length = A.s.length := by have := HRL.out; have := HQL.out; omega
      rw [hls, List.take_length] at HO
      rw [hls]
      exact ⟨al, cl, rfl, own_mono HO.out HB2.out.size, below_step HB2.out HB.out⟩
end Go.Proofs.Ytejjnhgiijhglaa.clknm
