/-
  A clock in memory: Fork.
-/
import Derived.Test.YtejjnhgiijhglaaClkT
namespace Go.Proofs.Ytejjnhgiijhglaa.clkfk
open Go.ChangeShapes Go.WideShapes Go.ChangeAt Go.RowKit
open Go.Maps
open Go.Proofs.Ytejjnhgiijhglaa.kit Go.Proofs.Ytejjnhgiijhglaa.mapkit Go.Proofs.Ytejjnhgiijhglaa.own Go.Proofs.Ytejjnhgiijhglaa.clk Go.Proofs.Ytejjnhgiijhglaa.heapp Go.Proofs.Ytejjnhgiijhglaa.clkp Go.Proofs.Ytejjnhgiijhglaa.clks
open Go.Proofs.Ytejjnhgiijhglaa.clkq (QAt TAt Num CQ cq_trans qat_cb pt_cell tat_ne)
set_option linter.unusedVariables false
set_option linter.unusedSimpArgs false
set_option maxHeartbeats 1000000
set_option maxRecDepth 100000

theorem hp_t3 {q q' : List Tm} (h : q'.map t3 = q.map t3) (hh : Hp q q.length) : Hp q' q'.length := by
  have hl : q'.length = q.length := by have := congrArg List.length h; simpa using this
  have hg : ∀ k, k < q.length → (gt q' k).due = (gt q k).due ∧ (gt q' k).turn = (gt q k).turn := by
    intro k hk
    rw [gt_eq hk, gt_eq (by omega)]
    have h1 : (q'.map t3)[k]'(by rw [List.length_map]; omega) = (q.map t3)[k]'(by rw [List.length_map]; omega) := by simp only [h]
    rw [List.getElem_map, List.getElem_map] at h1
    exact ⟨congrArg T3.due h1, congrArg T3.turn h1⟩
  intro k h0 hk
  have h1 := hh k h0 (by omega)
  have h2 := hg k (by omega)
  have h3 := hg (par k) (by unfold par; omega)
  unfold lt at h1 ⊢
  rw [h2.1, h2.2, h3.1, h3.2]
  exact h1

/-- A timer more at a queue's end. -/
theorem push_fin {w1 : World} {base cb : Nat} {now turns : Int} {mv : Value} {a : Option Addr} {c : Nat} {q : List Tm} {t : Tm} (h : QAt w1 base cb now turns mv a c q) (ht : TAt w1 t q.length) (htb : base ≤ t.tb) (htn : Num t) {o : Obj} :
    ∀ (v5 : Value) (w5 : World), w5.ownsRow base 52 1 v5 (q.length + 1) (q.map clkq.ptr ++ [.pointer (some ⟨t.tb, 0, none⟩)]) → (w1.alloc o).grownBy w5 (Value.slice a q.length c).ownBlock →
      (∃ v, w5.cell? ⟨cb, 2, none⟩ = some v) ∧ w5.frozen? ⟨cb, 2, none⟩ = false ∧ (∃ a' c', QAt (w5.setCell ⟨cb, 2, none⟩ v5) base cb now turns mv a' c' (q ++ [t])) ∧ Keep (CQ w1 base) w1 (w5.setCell ⟨cb, 2, none⟩ v5) := by
  intro v5 w5 ho hg
  obtain ⟨a5, c5, rfl⟩ := own_shape ho
  have hbn := below_new1 w1 o
  have hother : ∀ (k : Nat) (T : TypeId) (cs : Array Value), w1.heap[k]? = some (Obj.cells cs T (0, 0)) → T ≠ 52 → w5.heap[k]? = some (Obj.cells cs T (0, 0)) := by
    intro k T cs hh hT
    have h1 := hp_step hh hbn
    refine (hg.block k (kit.blk h1).2.2 (fun e => ?_)).trans h1
    obtain ⟨cur, hcur⟩ := own_heap h.row k (own_block h.row k e.symm)
    rw [hcur] at hh
    simp only [Option.some.injEq, Obj.cells.injEq] at hh
    exact hT hh.2.1.symm
  have hb5 := hother cb _ _ h.blk (by decide)
  have hcb : cb ≠ t.tb := fun e => qat_cb h ht e.symm
  refine ⟨⟨_, (kit.blk hb5).1 2⟩, (kit.blk hb5).2.1 2, ⟨a5, c5, h.lob, ?_, ?_, fun i hi => ?_, fun x hx => ?_, fun x hx => ?_⟩, ?_⟩
  · rw [List.length_append, List.length_singleton]
    exact hp_set hb5 2 _
  · rw [List.length_append, List.length_singleton, List.map_append]
    exact own_kept ho (fun g' hg' => hp_set_ne (own_ne ho hb5 (by decide) g' hg'))
  · by_cases e : i < q.length
    · have h1 := hother _ _ _ (h.tms i e) (by decide)
      rw [List.getElem_append_left e]
      refine (hp_set_ne (fun e2 => ?_)).trans h1
      exact qat_cb h (h.tms i e) e2
    · have e1 : i = q.length := by rw [List.length_append, List.length_singleton] at hi; omega
      subst e1
      have h1 := hother _ _ _ ht (by decide)
      rw [List.getElem_append_right (Nat.le_refl _)]
      simp only [Nat.sub_self, List.getElem_cons_zero]
      exact (hp_set_ne (fun e2 => hcb e2.symm)).trans h1
  · rcases List.mem_append.1 hx with hx | hx
    · exact h.lot x hx
    · rw [List.mem_singleton.1 hx]; exact htb
  · rcases List.mem_append.1 hx with hx | hx
    · exact h.num x hx
    · rw [List.mem_singleton.1 hx]; exact htn
  · have hk5 : Keep (CQ w1 base) w1 w5 := by
      refine ⟨hg.os, hg.tape, hg.output, by have := hg.size; rw [size_new] at this; omega, fun k hk hn => ?_⟩
      refine (hg.block k (by rw [size_new]; omega) (fun e => hn ?_)).trans (hp_alloc_old hk)
      have h3 := own_block h.row k e.symm
      obtain ⟨cur, hcur⟩ := own_heap h.row k h3
      exact ⟨(own_from h.row k h3).1, cur, _, _, hcur, .inr (.inl rfl)⟩
    exact hk5.setCell (p := ⟨cb, 2, none⟩) (.inr ⟨h.lob, _, _, _, h.blk, .inl rfl⟩) _
theorem cq_below {base : Nat} {w w1 : World} (h : Keep (CQ w base) w w1) (hw : base ≤ w.heap.size) : Below base w w1 := h.below hw (fun k hk e => by have := e.1; omega)
theorem QAt.grown {w w' : World} {base cb mb : Nat} {now turns : Int} {mv : Value} {a : Option Addr} {c : Nat} {q : List Tm} {f : Lit → Option Value} {n : Nat} (h : QAt w base cb now turns mv a c q) (hm : MapAt w Try.prog 9 mb f n) (hg : w.grownBy w' (some mb)) : QAt w' base cb now turns mv a c q := by
  have hmm : ∀ (k : Nat) (o : Obj), w.heap[k]? = some o → (∃ cs T f, o = .cells cs T f) → w'.heap[k]? = some o := by
    rintro k o ho ⟨cs, T, f, rfl⟩
    refine (hg.block k (Array.getElem?_eq_some_iff.1 ho).1 (fun e => ?_)).trans ho
    obtain ⟨es3, cl3, hme3⟩ := hm.obj
    rw [Option.some.inj e, hme3] at ho; cases ho
  refine ⟨h.lob, hmm _ _ h.blk ⟨_, _, _, rfl⟩, own_kept h.row (fun g hg => ?_), fun k hk => hmm _ _ (h.tms k hk) ⟨_, _, _, rfl⟩, h.lot, h.num⟩
  obtain ⟨cur, hcur⟩ := own_heap h.row g hg
  rw [hcur]
  exact hmm _ _ hcur ⟨_, _, _, rfl⟩

/-- A fork that has come to the k'th timer. -/
def Half (w : World) (A : CkS) (q : List Tm) (F M k : Nat) (wr : World) : Prop :=
  ∃ (a : Option Addr) (c : Nat) (q' : List Tm), q'.map t3 = (q.take k).map t3 ∧ QAt wr w.heap.size F A.now A.turns (.map (some M)) a c q' ∧ MapAt wr Try.prog 9 M (fm q') q'.length ∧ w.heap.size ≤ M ∧ Below w.heap.size w wr

theorem fork_ok (w : World) (base cb mb : Nat) (A : CkS) (h : ClkIs w base cb mb A) :
    Calls Try.prog 20 #[.pointer (some ⟨cb, 0, none⟩)] w fun e w' => ∃ cb' mb', e = .returned (.pointer (some ⟨cb', 0, none⟩)) ∧ ClkIs w' w.heap.size cb' mb' A ∧ Below w.heap.size w w' := by
  obtain ⟨hlom, hok, a, c, q, hq, hhp, hp, hm⟩ := h
  obtain ⟨b1, b2, hzb⟩ := kit.blk hq.blk
  have c0 : w.cell? ⟨cb, 0, none⟩ = some (.int .i64 A.now) := b1 0
  have c1 : w.cell? ⟨cb, 1, none⟩ = some (.int .i64 A.turns) := b1 1
  have c2 : w.cell? ⟨cb, 2, none⟩ = some (.slice a q.length c) := b1 2
  have hql : q.length ≤ 64 := by rw [q_len hp]; exact hok.len
  have hmm := @run_makeMap Try.prog
  have HQ := Lib.hid hq
  have HOK := Lib.hid hok
  have HHP := Lib.hid hhp
  have HP := Lib.hid hp
  clear hq hhp hp hm hok b1 b2
  go_enter Try.func20, Try.ntmps20
  go_wp2_with fail
  go_region
  obtain ⟨w0, hw0⟩ : ∃ w0 : World, w0 = ((w.alloc (.map #[] 0)).alloc (.cells #[.int .i64 A.now, .int .i64 A.turns, .slice none 0 0, .map (some w.heap.size)] 51)).drew := ⟨_, rfl⟩
  have hn2 := new2 w (.map #[] 0) (.cells #[.int .i64 A.now, .int .i64 A.turns, .slice none 0 0, .map (some w.heap.size)] 51)
  have hz0 : w0.heap.size = w.heap.size + 1 + 1 := by rw [hw0]; exact hn2.2.2
  have hH0 : Half w A q (w.heap.size + 1) w.heap.size 0 w0 := by
    have hb0 : Below w.heap.size w w0 := by rw [hw0]; exact below_drewN (below_new2 w _ _) 1
    have hblk0 : w0.heap[w.heap.size + 1]? = some (.cells #[.int .i64 A.now, .int .i64 A.turns, .slice none 0 0, .map (some w.heap.size)] 51 (0, 0)) := by rw [hw0]; exact hn2.2.1
    have hm0 : MapAt w0 Try.prog 9 w.heap.size (fun _ => none) 0 := by
      have := (map_made w Try.prog 9).alloc (.cells #[.int .i64 A.now, .int .i64 A.turns, .slice none 0 0, .map (some w.heap.size)] 51)
      rw [hw0]
      exact this.to rfl
    refine ⟨none, 0, [], rfl, ⟨by omega, hblk0, World.ownsRow_nil _ _ _ _, by simp, by simp, by simp⟩, ?_, Nat.le_refl _, hb0⟩
    have e : fm [] = fun _ => none := by funext y; cases y <;> rfl
    rw [e]
    exact hm0
  have HH0 := Lib.hid hH0
  have c2' : w0.cell? ⟨cb, 2, none⟩ = some (.slice a q.length c) := cell_step c2 (by rw [hw0]; exact below_drewN (below_new2 w _ _) 1)
  have hzb0 : cb < w0.heap.size := by omega
  rw [← hw0]
  clear hn2 hH0 hw0 c0 c1 c2
  go_wp2_with fail
  go_loopw [25] (fun kv wr => ∃ k : Nat, k ≤ q.length ∧ kv = .int .i64 k ∧ Hid (Half w A q (w.heap.size + 1) w.heap.size k wr)) (fun kv _ => q.length - (intOf kv).toNat)
  case atStart => exact ⟨0, Nat.zero_le _, rfl, HH0⟩
  case round =>
    obtain ⟨k, hk, rfl, HH⟩ := hrel
    by_cases hkl : k < q.length
    · obtain ⟨g, rfl⟩ := own_ptr HQ.out.row (by omega)
      obtain ⟨a', c', q', hqe, hq', hm', hlm, hbl⟩ := HH.out
      have x0 := cell_step (pt_cell HQ.out.row hkl).1 hbl
      have hgz : g < wr.heap.size := Nat.lt_of_lt_of_le (own_from HQ.out.row g rfl).2 hbl.size
      have htk := hp_step (HQ.out.tms k hkl) hbl
      have hnumk := HQ.out.num _ (List.getElem_mem hkl)
      obtain ⟨t, ht⟩ : ∃ t, t = q[k] := ⟨_, rfl⟩
      rw [← ht] at x0 htk hnumk
      obtain ⟨t1, t2, hzt⟩ := kit.blk htk
      have y0 : wr.cell? ⟨t.tb, 0, none⟩ = some (.string t.nm) := t1 0
      have y1 : wr.cell? ⟨t.tb, 1, none⟩ = some (.int .i64 t.due) := t1 1
      have y2 : wr.cell? ⟨t.tb, 2, none⟩ = some (.int .i64 t.turn) := t1 2
      have y3 : wr.cell? ⟨t.tb, 3, none⟩ = some (.int .i64 k) := t1 3
      have HQ' := Lib.hid hq'
      have HM' := Lib.hid hm'
      have HB := Lib.hid hbl
      have HQE := Lib.hid hqe
      have HT := Lib.hid ht
      have HNK := Lib.hid hnumk
      clear hqe hq' hm' hbl htk hnumk ht t1 t2
      obtain ⟨j0, hj, hy0, hy1, hy2⟩ := info_parts infoTm
      obtain ⟨w1, hw1⟩ : ∃ w1, w1 = wr.alloc (.cells #[.string t.nm, .int .i64 t.due, .int .i64 t.turn, .int .i64 k] 55) := ⟨_, rfl⟩
      have hbw1 : Below wr.heap.size wr w1 := by rw [hw1]; exact below_new1 wr _
      have hz1 : w1.heap.size = wr.heap.size + 1 := by rw [hw1, size_new]
      obtain ⟨u, hu⟩ : ∃ u : Tm, u = ⟨t.nm, t.due, t.turn, wr.heap.size⟩ := ⟨_, rfl⟩
      have hu4 : u.tb = wr.heap.size := by rw [hu]
      have hu1 : u.nm = t.nm := by rw [hu]
      have hut : t3 u = t3 t := by rw [hu]; rfl
      have hql' : q'.length = k := by
        have := congrArg List.length HQE.out
        rw [List.length_map, List.length_map, List.length_take] at this
        omega
      have hu1t : TAt w1 u q'.length := by
        rw [hql', hw1, hu]
        exact hp_alloc_new wr _
      have hq1 := HQ'.out.below hbw1
      have hm1 := HM'.out.below hbw1
      have hbb : w.heap.size ≤ wr.heap.size := HB.out.size
      have hun : Num u := by have := HNK.out; rw [hu]; exact this
      have HPF := Lib.hid (fun (o : Obj) => push_fin hq1 hu1t (by omega) hun (o := o))
      obtain ⟨b1, b2, hzF⟩ := kit.blk hq1.blk
      have z2 : w1.cell? ⟨w.heap.size + 1, 2, none⟩ = some (.slice a' q'.length c') := b1 2
      have HR := Lib.hid hq1.row
      have HM1 := Lib.hid hm1
      have HSN : Hid ((q' ++ [u]).map t3 = (q.take (k + 1)).map t3) := by
        rw [Hid, List.take_succ_eq_append_getElem hkl, List.map_append, List.map_append, HQE.out, List.map_singleton, List.map_singleton, hut, HT.out]
      have HNOD : Hid (Nod (q' ++ [u])) := by
        rw [Hid, nod_t3, HSN.out, ← nod_t3]
        exact (q_nod HP.out HOK.out).sublist (List.take_sublist _ _)
      have HB1 := Lib.hid (below_step HB.out hbw1)
      have hnz : t.nm.size ≤ maxLen := by
        have := (HOK.out.siz _ (q_mem HP.out (List.getElem_mem hkl))).2
        rw [← HT.out] at this
        have : t.nm.size ≤ 16 := this
        unfold maxLen; omega
      have HKL := Lib.hid (key_nm hnz)
      rw [hu4] at HPF
      go_upto_region 8 with fail
      rw [← hw1]
      have HQL := Lib.hid hql'
      have HU4 := Lib.hid hu4
      have HU1 := Lib.hid hu1
      have HZ1 := Lib.hid hz1
      have hqk : q'.length ≤ 63 := by omega
      have hww : w.heap.size ≤ w1.heap.size := by omega
      clear hw1 hbw1 hu1t hq1 hm1 hun b1 b2 x0 y0 y1 y2 y3 hnz hql' hu4 hu1 hz1 hut hu
      go_wp2_with (at_builtin; refine wpl_append rfl (.tmp 36) (.tmp 37) 48 rfl w.heap.size 52 j0 _ 1 8 Try.underlying48 hj hy0 hy1 hy2 rfl (by decide) (.slice a' q'.length c') q'.length (q'.map clkq.ptr) rfl (HR.out.alloc _) (some ⟨w1.heap.size, 0, none⟩) 1 1 [.pointer (some ⟨wr.heap.size, 0, none⟩)] rfl (by simp) rfl ?hL (by simp [Value.oneCell']) (by unfold maxLen; omega) (by omega) ?hB ?_)
      case hL => exact .inr ⟨_, 0, rfl, by rw [size_new]; omega, fun i hi => by
        have hb := (kit.blk (hp_alloc_new w1 (.cells #[.pointer (some ⟨wr.heap.size, 0, none⟩)] 52))).1 0
        match i, hi with | 0, _ => exact hb⟩
      case hB => rw [size_new]; omega
      intro v5 w5 hown hgr
      obtain ⟨a5, c5, rfl⟩ := own_shape hown
      obtain ⟨⟨v0, d2⟩, e2, ⟨a6, c6, hq6⟩, hk6⟩ := HPF.out _ _ w5 hown hgr
      have hu4 := HU4.out
      have hu1 := HU1.out
      obtain ⟨w6, hw6⟩ : ∃ w6, w6 = w5.setCell ⟨w.heap.size + 1, 2, none⟩ (.slice a5 (q'.length + 1) c5) := ⟨_, rfl⟩
      rw [← hw6] at hq6 hk6
      have hm6 : MapAt w6 Try.prog 9 w.heap.size (fm q') q'.length := HM1.out.keep hk6 (by
        rintro ⟨-, cs, T, f, e, -⟩
        obtain ⟨es3, cl3, hme3⟩ := HM1.out.obj
        rw [hme3] at e; cases e)
      have hnd := List.pairwise_append.1 HNOD.out
      have hnone : fm q' (nk t.nm) = none := fm_none (fun x hx e => hnd.2.2 x hx u List.mem_cons_self (by rw [hu1]; exact nm_inj.1 e))
      have HFA := Lib.hid (fm_add hnd.1 (t := u) (fun x hx => hnd.2.2 x hx u List.mem_cons_self))
      have hB6 : Below w.heap.size w w6 := HB1.out.trans (cq_below hk6 (by omega))
      have hu6 : TAt w6 u q'.length := by
        have := hq6.tms q'.length (by simp)
        simpa using this
      have p3 : w6.cell? ⟨w.heap.size + 1, 3, none⟩ = some (.map (some w.heap.size)) := (kit.blk hq6.blk).1 3
      have p0 : w6.cell? ⟨wr.heap.size, 0, none⟩ = some (.string t.nm) := by rw [← hu4, ← hu1]; exact (kit.blk hu6).1 0
      have HQ6 := Lib.hid hq6
      have HM6 := Lib.hid hm6
      have HB6 := Lib.hid hB6
      have hlm2 : q'.length < maxLen := by unfold maxLen; omega
      clear hown hgr hq6 hk6 hm6 hnd hB6 hu6 HPF z2 hu4 hu1
      have HW6 := Lib.hid hw6
      clear hw6
      go_wp2_with fail
      rw [← HW6.out]
      clear d2 e2
      obtain ⟨w7, hr7, hm7, hg7⟩ := HM6.out.drew.run_store keyedS Try.underlying49 hlm2 HKL.out (kl := nk t.nm) (val := .pointer (some ⟨wr.heap.size, 0, none⟩)) trivial
      rw [hnone] at hm7
      have hm7' : MapAt w7 Try.prog 9 w.heap.size (fm (q' ++ [u])) (q' ++ [u]).length := by
        rw [List.length_append, List.length_singleton, ← HFA.out, HU1.out]
        unfold clkp.ptr
        rw [HU4.out]
        exact hm7
      have hb7 : Below w.heap.size w w7 := (below_drewN HB6.out 1).grown hg7 HB6.out.size (fun j hj => by have := Option.some.inj hj; omega)
      have hq7 := QAt.grown (HQ6.out.same (w' := w6.drew) rfl) HM6.out.drew hg7
      have HHK : Hid (Half w A q (w.heap.size + 1) w.heap.size (k + 1) w7) := ⟨a6, c6, q' ++ [u], HSN.out, hq7, hm7', Nat.le_refl _, hb7⟩
      clear hm7 hg7 hm7' hb7 hq7 hnone
      go_region
      go_wp2_with fail
      go_roundw
      case rel => exact ⟨k + 1, by omega, by go_num, HHK⟩
      case measure => simp [intOf]; omega
    · obtain rfl : k = q.length := by omega
      obtain ⟨a', c', q', hqe, hq', hm', hlm, hbl⟩ := HH.out
      rw [List.take_length] at hqe
      have hfin : ClkIs wr w.heap.size (w.heap.size + 1) w.heap.size A := ⟨Nat.le_refl _, HOK.out, a', c', q', hq', hp_t3 hqe HHP.out, by rw [hqe]; exact HP.out, hm'⟩
      have HF := Lib.hid (And.intro hfin hbl)
      clear hqe hq' hm' hbl hfin HH
      go_wp2_with fail
      go_ret
      exact ⟨w.heap.size + 1, w.heap.size, rfl, HF.out⟩
end Go.Proofs.Ytejjnhgiijhglaa.clkfk
