/-
  A clock in memory: Tick.
-/
import Derived.Test.YtejjnhgiijhglaaClkS
namespace Go.Proofs.Ytejjnhgiijhglaa.clkt
open Go.ChangeShapes Go.WideShapes Go.ChangeAt Go.RowKit
open Go.Maps
open Go.Proofs.Ytejjnhgiijhglaa.kit Go.Proofs.Ytejjnhgiijhglaa.mapkit Go.Proofs.Ytejjnhgiijhglaa.own Go.Proofs.Ytejjnhgiijhglaa.clk Go.Proofs.Ytejjnhgiijhglaa.heapp Go.Proofs.Ytejjnhgiijhglaa.clkh Go.Proofs.Ytejjnhgiijhglaa.clkp Go.Proofs.Ytejjnhgiijhglaa.clks
open Go.Proofs.Ytejjnhgiijhglaa.clkq (QAt TAt Num CQ cq_trans qat_cb pt_cell)
set_option linter.unusedVariables false
set_option linter.unusedSimpArgs false
set_option maxHeartbeats 1000000
set_option maxRecDepth 100000

theorem infoStr : (Try.prog.info? 9).map (fun i => (i.zero, i.size, i.bytes)) = some (some (.string ⟨#[]⟩), 1, 16) := by kernel_rfl
def names (s : List T3) : List Value := s.map (fun t => Value.string t.nm)
/-- The head of a heap is the first of those that stand in order. -/
theorem head_min {q : List Tm} {s : List T3} (hp : (q.map t3).Perm s) (hs : s.Pairwise lt3) (hh : Hp q q.length) (h0 : 0 < q.length) : ∃ rest, s = t3 q[0] :: rest := by
  cases s with
  | nil =>
    have h9 : q.length = 0 := q_len hp
    omega
  | cons x rest =>
    refine ⟨rest, ?_⟩
    have hc := List.pairwise_cons.1 hs
    have h1 : x ∈ q.map t3 := hp.mem_iff.2 (by simp)
    obtain ⟨u, hu, rfl⟩ := List.mem_map.1 h1
    obtain ⟨k, hk, rfl⟩ := List.getElem_of_mem hu
    have h2 := hp_min hh k hk
    rw [gt_eq hk, gt_eq h0] at h2
    have h3 : t3 q[0] ∈ t3 q[k] :: rest := hp.mem_iff.1 (List.mem_map_of_mem (List.getElem_mem h0))
    rcases List.mem_cons.1 h3 with e | h3
    · rw [e]
    · have h4 := hc.1 _ h3
      unfold lt3 t3 at h4
      unfold lt at h2
      simp only at h4
      omega
theorem rm_head {x : T3} {rest : List T3} (h : (x :: rest).Pairwise (fun a b => a.nm ≠ b.nm)) : rm (x :: rest) x.nm = rest := by
  have hc := List.pairwise_cons.1 h
  unfold rm
  rw [List.filter_cons_of_neg (by simp)]
  exact List.filter_eq_self.2 (fun t ht => decide_eq_true (fun e => hc.1 t ht e.symm))
def lenQ (w : World) (cb : Nat) : Nat := match w.cell? ⟨cb, 2, none⟩ with
  | some (.slice _ n _) => n
  | _ => 0
theorem lenQ_is {w : World} {base cb mb : Nat} {A : CkS} (h : ClkIs w base cb mb A) : lenQ w cb = A.s.length := by
  obtain ⟨h1, h2, a, c, q, h3, h4, h5, h6⟩ := h
  have e : w.cell? ⟨cb, 2, none⟩ = some (.slice a q.length c) := (kit.blk h3.blk).1 2
  unfold lenQ
  rw [e, ← q_len h5]
theorem str_keep {w w' : World} {base mb N n c : Nat} {a : Option Addr} {xs : List Value} {b cb : Nat} {A : CkS} (h : w.ownsRow N 9 1 (.slice a n c) n xs) (hC : ClkIs w b cb mb A) (hk : Keep (CM w base mb) w w') : w'.ownsRow N 9 1 (.slice a n c) n xs := by
  refine own_kept h (fun g hg => ?_)
  obtain ⟨cur, hcur⟩ := own_heap h g hg
  refine hk.block g (own_from h g hg).2 ?_
  rintro (⟨-, cs, T, f, e, e2⟩ | e)
  · rw [hcur] at e
    simp only [Option.some.injEq, Obj.cells.injEq] at e
    obtain ⟨-, e3, -⟩ := e
    rw [← e3] at e2
    revert e2
    decide
  · obtain ⟨-, -, a9, c9, q9, -, -, -, hm⟩ := hC
    obtain ⟨es, cl, hme⟩ := hm.obj
    rw [← e, hcur] at hme
    cases hme

/-- A clock stays where all but blocks of strings stay. -/
theorem clk_other {w w' : World} {base cb mb : Nat} {A : CkS} (h : ClkIs w base cb mb A) (ho : ∀ (k : Nat) (o : Obj), w.heap[k]? = some o → (∀ cs f, o ≠ .cells cs 9 f) → w'.heap[k]? = some o) : ClkIs w' base cb mb A := by
  obtain ⟨h1, h2, a, c, q, h3, h4, h5, h6⟩ := h
  have hne : ∀ {T : TypeId} {cs : Array Value} {f : Nat × Nat}, T ≠ 9 → ∀ cs' f', Obj.cells cs T f ≠ .cells cs' 9 f' := by
    intro T cs f hT cs' f' e
    simp only [Obj.cells.injEq] at e
    exact hT e.2.1
  refine ⟨h1, h2, a, c, q, ⟨h3.lob, ho _ _ h3.blk (hne (by decide)), own_kept h3.row (fun g hg => ?_), fun k hk => ho _ _ (h3.tms k hk) (hne (by decide)), h3.lot, h3.num⟩, h4, h5, ?_⟩
  · obtain ⟨cur, hcur⟩ := own_heap h3.row g hg
    rw [hcur]
    exact ho _ _ hcur (hne (by decide))
  · obtain ⟨es, cl, hme⟩ := h6.obj
    exact h6.to ((ho _ _ hme (by simp)).trans hme.symm)

theorem tick_ok (w : World) (base cb mb : Nat) (A : CkS) (h : ClkIs w base cb mb A) (hbase : base ≤ w.heap.size) (hf : Fut A) (hb : A.now + 1 ≤ 1125899906842624) :
    Calls Try.prog 13 #[.pointer (some ⟨cb, 0, none⟩)] w fun e w' => ∃ a c, e = .returned (.slice a (told A).length c) ∧ w'.ownsRow w.heap.size 9 1 (.slice a (told A).length c) (told A).length ((told A).map Value.string) ∧ ClkIs w' base cb mb (tickS A) ∧ Keep (CM w base mb) w w' := by
  obtain ⟨j0, hj, hy0, hy1, hy2⟩ := info_parts infoStr
  have hok := h.ok
  have hnum := hok.num
  have hL := h.lt
  obtain ⟨hlom, -, a, c, q, hq, hhp, hp, hm⟩ := h
  obtain ⟨b1, b2, hzb⟩ := kit.blk hq.blk
  have c0 : w.cell? ⟨cb, 0, none⟩ = some (.int .i64 A.now) := b1 0
  have f0 : w.frozen? ⟨cb, 0, none⟩ = false := b2 0
  obtain ⟨w1, hw1⟩ : ∃ w1, w1 = w.setCell ⟨cb, 0, none⟩ (.int .i64 (A.now + 1)) := ⟨_, rfl⟩
  have hC1 : ClkIs w1 base cb mb ⟨A.now + 1, A.turns, A.s⟩ := by
    have hne : ∀ k : Nat, k ≠ cb → w1.heap[k]? = w.heap[k]? := fun k hk => by rw [hw1]; exact hp_set_ne hk
    have hcm : mb ≠ cb := by
      intro e
      obtain ⟨es, cl, hme⟩ := hm.obj
      rw [e, hq.blk] at hme
      cases hme
    refine ⟨hlom, ⟨hok.srt, hok.nod, hok.trn, fun t ht => ?_, hok.siz, hok.len, ⟨⟨?_, hb⟩, hnum.2⟩⟩, a, c, q, ⟨hq.lob, ?_, own_kept hq.row (fun g hg => hne g (fun e => own_ne hq.row hq.blk (by decide) g hg e)), fun k hk => (hne _ (qat_cb hq (hq.tms k hk))).trans (hq.tms k hk), hq.lot, hq.num⟩, hhp, hp, hm.to (hne mb hcm)⟩
    · have h1 := hf t ht
      have h2 := hok.fut t ht
      show A.now + 1 ≤ t.due ∧ t.due ≤ A.now + 1 + 2147483647
      omega
    · show 0 ≤ A.now + 1
      omega
    · rw [hw1]
      exact hp_set hq.blk 0 _
  have hk1 : Keep (CM w base mb) w w1 := by rw [hw1]; exact (Keep.refl (CM w base mb) w).setCell (p := ⟨cb, 0, none⟩) (.inr (.inl ⟨hq.lob, _, _, _, hq.blk, .inl rfl⟩)) _
  have hwrap : IntKind.i64.wrap (A.now + 1) = A.now + 1 := IntWalk.i64_in _ (by omega)
  have HC1 := Lib.hid hC1
  have HK1 := Lib.hid hk1
  have HW1 := Lib.hid hw1
  have HOK := Lib.hid hok
  obtain ⟨now1, hnow1⟩ : ∃ x, x = A.now + 1 := ⟨_, rfl⟩
  have HN1 := Lib.hid hnow1
  rw [← hnow1] at HC1
  clear hq hhp hp hm hok b1 b2 hC1 hk1 hw1 hf
  go_enter Try.func13, Try.ntmps13
  go_upto_region 4 with fail
  rw [← HW1.out]
  clear c0 f0 HW1 hnow1
  go_wp2_with fail
  go_loopw [3] (fun lv wr => ∃ (pre suf : List T3), Hid (A.s = pre ++ suf) ∧ Hid (∀ x ∈ pre, x.due ≤ now1) ∧ (∃ al cl, lv = .slice al pre.length cl ∧ Hid (wr.ownsRow w.heap.size 9 1 (.slice al pre.length cl) pre.length (names pre))) ∧ Hid (ClkIs wr base cb mb ⟨now1, A.turns, suf⟩) ∧ Hid (Keep (CM w base mb) w wr)) (fun _ wr => lenQ wr cb)
  case atStart => exact ⟨[], A.s, rfl, (fun x hx => by simp at hx), ⟨none, 0, rfl, World.ownsRow_nil _ _ _ _⟩, HC1, HK1⟩
  case round =>
    obtain ⟨pre, suf, hsp, hpre, ⟨al, cl, rfl, HO⟩, HC, HK⟩ := hrel
    have HFIN : Hid ((∀ x ∈ suf, now1 < x.due) → told A = pre.map T3.nm ∧ tickS A = ⟨now1, A.turns, suf⟩) := by
      intro hs
      have e1 : A.s.filter (fun x => decide (x.due ≤ A.now + 1)) = pre := by
        rw [hsp.out, List.filter_append, List.filter_eq_self.2 (fun x hx => decide_eq_true (by have := hpre.out x hx; have := HN1.out; omega)), List.filter_eq_nil_iff.2 (fun x hx => by have := hs x hx; have := HN1.out; simp; omega), List.append_nil]
      have e2 : A.s.filter (fun x => decide (A.now + 1 < x.due)) = suf := by
        rw [hsp.out, List.filter_append, List.filter_eq_nil_iff.2 (fun x hx => by have := hpre.out x hx; have := HN1.out; simp; omega), List.filter_eq_self.2 (fun x hx => decide_eq_true (by have := hs x hx; have := HN1.out; omega)), List.nil_append]
      refine ⟨by rw [told, e1], ?_⟩
      rw [tickS, e2, ← HN1.out]
    have HEND : Hid (∀ wx, Below wr.heap.size wr wx → (∀ x ∈ suf, now1 < x.due) → ∃ a c, Ending.returned (.slice al pre.length cl) = .returned (.slice a (told A).length c) ∧ wx.ownsRow w.heap.size 9 1 (.slice a (told A).length c) (told A).length ((told A).map Value.string) ∧ ClkIs wx base cb mb (tickS A) ∧ Keep (CM w base mb) w wx) := by
      intro wx hbx hs
      obtain ⟨e1, e2⟩ := HFIN.out hs
      have e3 : (told A).length = pre.length := by rw [e1, List.length_map]
      rw [e3]
      refine ⟨al, cl, rfl, ?_, by rw [e2]; exact HC.out.below hbx, HK.out.trans (Keep.of_below hbx)⟩
      rw [e1, List.map_map]
      exact own_below HO.out hbx
    obtain ⟨-, hok2, a, c, q, hq, hhp, hp, hm⟩ := HC.out
    obtain ⟨b1, b2, hzb⟩ := kit.blk hq.blk
    have hql := q_len hp
    have hl64 := hok2.len
    have hpl : pre.length ≤ 64 := by
      have h9 := HOK.out.len
      rw [hsp.out, List.length_append] at h9
      omega
    obtain ⟨ql, hqld⟩ : ∃ x, x = q.length := ⟨_, rfl⟩
    have c2 : wr.cell? ⟨cb, 2, none⟩ = some (.slice a ql c) := by rw [hqld]; exact b1 2
    have c0 : wr.cell? ⟨cb, 0, none⟩ = some (.int .i64 now1) := b1 0
    by_cases h0 : q = []
    · have hz : ql = 0 := by rw [hqld, h0]; rfl
      have hs : suf = [] := by
        rw [h0] at hql
        exact List.length_eq_zero_iff.1 hql.symm
      rw [hz] at c2
      have HE := Lib.hid (fun wx hbx => HEND.out wx hbx (by rw [hs]; simp))
      clear hq hhp hp hm hok2 b1 b2 hql hl64 hqld h0 hz hs
      go_wp2_with fail
      go_quiet (fail)
      go_wp2_with fail
      go_ret
      exact HE.out _ (below_drewN (Below.refl _ wr) nq)
    · have hl0 : 0 < q.length := List.length_pos_iff.2 h0
      obtain ⟨rest, hsuf⟩ := head_min (s := suf) hp hok2.srt hhp hl0
      have hrow := hq.row
      obtain ⟨g, rfl⟩ := own_ptr hrow hl0
      obtain ⟨r0, -⟩ := pt_cell hrow hl0
      have hgz := (own_from hrow g rfl).2
      obtain ⟨t1, t2, htz⟩ := kit.blk (hq.tms 0 hl0)
      obtain ⟨t, ht⟩ : ∃ t, t = q[0] := ⟨_, rfl⟩
      rw [← ht] at t1 t2 htz r0 hsuf
      have td : wr.cell? ⟨t.tb, 1, none⟩ = some (.int .i64 t.due) := t1 1
      have tn : wr.cell? ⟨t.tb, 0, none⟩ = some (.string t.nm) := t1 0
      have hq1 : (0 : Int) < (ql : Int) := by omega
      have hq64 : ql ≤ 64 := by omega
      have hq0 : 0 < ql := by omega
      by_cases hd : t.due ≤ now1
      · have g2 : decide (t.due ≤ now1) = true := decide_eq_true hd
        have hsz : t.nm.size ≤ maxLen := by
          have h9 := hok2.siz (t3 t) (by rw [hsuf]; simp)
          have h8 : (t3 t).nm = t.nm := rfl
          rw [h8] at h9
          unfold maxLen
          omega
        have HST := Lib.hid (fun (wx : World) (hbx : Below wr.heap.size wr wx) => stop_ok wx base cb mb _ t.nm (HC.out.below hbx) (Nat.le_trans (Nat.le_trans hbase HK.out.size) hbx.size) hsz)
        have hhas : has suf t.nm = true := has_iff.2 ⟨t3 t, by rw [hsuf]; simp, rfl⟩
        have hrm : rm suf t.nm = rest := by
          have h9 := hok2.nod
          rw [show (CkS.mk now1 A.turns suf).s = suf from rfl, hsuf] at h9
          rw [hsuf]
          exact rm_head h9
        have HSUF := Lib.hid hsuf
        have HRM := Lib.hid hrm
        have HPRE : Hid (∀ x ∈ pre ++ [t3 t], x.due ≤ now1) := by
          intro x hx
          rcases List.mem_append.1 hx with hx | hx
          · exact hpre.out x hx
          · rw [List.mem_singleton.1 hx]; exact hd
        have HSP : Hid (A.s = (pre ++ [t3 t]) ++ rest) := by rw [Hid, hsp.out, hsuf]; simp
        have HLQ : Hid (lenQ wr cb = rest.length + 1) := by rw [Hid, lenQ_is HC.out]; show suf.length = _; rw [hsuf]; rfl
        clear hq hhp hp hm hok2 b1 b2 hql hl64 hqld h0 hl0 hrow t1 t2 ht hsuf hrm hd
        go_wp2_with fail
        go_quiet (fail)
        obtain ⟨w2, hw2⟩ : ∃ w2, w2 = wr.drewN nq := ⟨_, rfl⟩
        rw [← hw2]
        have hb2 : Below wr.heap.size wr w2 := by rw [hw2]; exact below_drewN (Below.refl _ wr) nq
        have y2 := cell_step c2 hb2
        have y0 := cell_step r0 hb2
        have yn := cell_step tn hb2
        have hgz2 : g < w2.heap.size := Nat.lt_of_lt_of_le hgz hb2.size
        have HC2 := Lib.hid (HC.out.below hb2)
        have HO2 := Lib.hid (own_below HO.out hb2)
        have HK2 := Lib.hid (HK.out.trans (Keep.of_below hb2))
        have HS2 := Lib.hid (HST.out w2 hb2)
        clear hb2 hw2 c2 c0 r0 td tn htz
        go_wp2_with fail
        refine HS2.out.mono ?_; rintro e w3 ⟨rfl, hC3, hk3⟩
        have HC3 : Hid (ClkIs w3 base cb mb ⟨now1, A.turns, rest⟩) := by
          have h9 := hC3
          rw [stopS, show (CkS.mk now1 A.turns suf).s = suf from rfl, HRM.out] at h9
          exact h9
        have HO3 := Lib.hid (str_keep HO2.out HC2.out hk3)
        have HK3 := Lib.hid (cm_trans HK2.out hk3)
        have hs3 : w.heap.size ≤ w3.heap.size := HK3.out.size
        clear hC3 hk3 y2 y0 yn HS2
        go_wp2_with (at_builtin; refine wpl_append rfl (.tmp 48) (.tmp 50) 31 rfl w.heap.size 9 j0 _ 1 16 Try.underlying31 hj hy0 hy1 hy2 rfl (by decide) (.slice al pre.length cl) pre.length (names pre) rfl (HO3.out.alloc _) (some ⟨w3.heap.size, 0, none⟩) 1 1 [.string t.nm] rfl (by simp) rfl ?hL (by simp [Value.oneCell']) (by unfold maxLen; omega) (by omega) ?hB ?_)
        case hL => exact .inr ⟨_, 0, rfl, by rw [size_new]; omega, fun i hi => by
          have hb := (kit.blk (hp_alloc_new w3 (.cells #[.string t.nm] 9))).1 0
          match i, hi with | 0, _ => exact hb⟩
        case hB => rw [size_new]; omega
        intro v5 w5 hown hgr
        obtain ⟨a5, c5, rfl⟩ := own_shape hown
        have hC5 : ClkIs w5 base cb mb ⟨now1, A.turns, rest⟩ := by
          refine clk_other HC3.out (fun k o ho hn => ?_)
          have h1 : k < w3.heap.size := (Array.getElem?_eq_some_iff.1 ho).1
          refine (hgr.block k (by rw [size_new]; omega) (fun e => ?_)).trans ((hp_alloc_old h1).trans ho)
          obtain ⟨cur, hcur⟩ := own_heap HO3.out k (own_block HO3.out k e.symm)
          rw [hcur] at ho
          exact hn cur (0, 0) (Option.some.inj ho).symm
        have hk5 : Keep (CM w base mb) w w5 := by
          have h9 := HK3.out
          refine ⟨hgr.os.trans h9.os, hgr.tape.trans h9.tape, hgr.output.trans h9.output, by have := hgr.size; rw [size_new] at this; omega, fun k hk hn => ?_⟩
          refine (hgr.block k (by rw [size_new]; omega) (fun e => ?_)).trans ((hp_alloc_old (by omega)).trans (h9.block k hk hn))
          have h4 := own_from HO3.out k (own_block HO3.out k e.symm)
          omega
        have HC5 := Lib.hid hC5
        have HK5 := Lib.hid hk5
        have HO5 : Hid (w5.ownsRow w.heap.size 9 1 (.slice a5 (pre ++ [t3 t]).length c5) (pre ++ [t3 t]).length (names (pre ++ [t3 t]))) := by
          rw [List.length_append, List.length_singleton]
          unfold names
          rw [List.map_append]
          exact hown
        have HV5 : Hid ((Value.slice a5 (pre.length + 1) c5) = .slice a5 (pre ++ [t3 t]).length c5) := by rw [Hid, List.length_append, List.length_singleton]
        clear hown hgr hC5 hk5
        go_wp2_with fail
        go_roundw
        case rel => exact ⟨pre ++ [t3 t], rest, HSP, HPRE, ⟨a5, c5, HV5.out, HO5⟩, HC5, HK5⟩
        case measure =>
          rw [lenQ_is HC5.out, HLQ.out]
          exact Nat.lt_succ_self _
      · have g2 : decide (t.due ≤ now1) = false := decide_eq_false hd
        have HE := Lib.hid (fun wx hbx => HEND.out wx hbx (fun x hx => by
          rw [hsuf] at hx
          rcases List.mem_cons.1 hx with rfl | hx
          · show now1 < t.due
            omega
          · have h9 := hok2.srt
            have h8 : (t3 t :: rest).Pairwise lt3 := by rw [← hsuf]; exact h9
            have h7 := (List.pairwise_cons.1 h8).1 x hx
            unfold lt3 at h7
            have h6 : (t3 t).due = t.due := rfl
            omega))
        clear hq hhp hp hm hok2 b1 b2 hql hl64 hqld h0 hl0 hrow t1 t2 ht hsuf hd
        go_wp2_with fail
        go_quiet (fail)
        go_wp2_with fail
        go_ret
        exact HE.out _ (below_drewN (Below.refl _ wr) nq)
end Go.Proofs.Ytejjnhgiijhglaa.clkt
