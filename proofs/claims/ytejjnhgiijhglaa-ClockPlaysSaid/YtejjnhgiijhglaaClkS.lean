/-
  A clock in memory: New, Now, Stop, Due, Set.
-/
import Derived.Test.YtejjnhgiijhglaaClkH
import Derived.Test.YtejjnhgiijhglaaClkP
import Derived.StillTailTactics
import Derived.BigQuiet
namespace Go.Proofs.Ytejjnhgiijhglaa.clks
open Go.ChangeShapes Go.WideShapes Go.ChangeAt Go.RowKit
open Go.Maps
open Go.Proofs.Ytejjnhgiijhglaa.kit Go.Proofs.Ytejjnhgiijhglaa.mapkit Go.Proofs.Ytejjnhgiijhglaa.own Go.Proofs.Ytejjnhgiijhglaa.clk Go.Proofs.Ytejjnhgiijhglaa.heapp Go.Proofs.Ytejjnhgiijhglaa.clkh Go.Proofs.Ytejjnhgiijhglaa.clkp
open Go.Proofs.Ytejjnhgiijhglaa.clkq (QAt TAt Num CQ cq_trans qat_cb)
set_option linter.unusedVariables false
set_option linter.unusedSimpArgs false
set_option maxHeartbeats 1000000
set_option maxRecDepth 100000

/-- A clock in memory. -/
structure ClkIs (w : World) (base cb mb : Nat) (A : CkS) : Prop where
  lom : base ≤ mb
  ok : Ok A
  ex : ∃ (a : Option Addr) (c : Nat) (q : List Tm), QAt w base cb A.now A.turns (.map (some mb)) a c q ∧ Hp q q.length ∧ (q.map t3).Perm A.s ∧ MapAt w Try.prog 9 mb (fm q) q.length
theorem ClkIs.below {w w' : World} {base cb mb : Nat} {A : CkS} (h : ClkIs w base cb mb A) (hb : Below w.heap.size w w') : ClkIs w' base cb mb A := by
  obtain ⟨h1, h2, a, c, q, h3, h4, h5, h6⟩ := h
  exact ⟨h1, h2, a, c, q, h3.below hb, h4, h5, h6.below hb⟩
theorem ClkIs.lt {w : World} {base cb mb : Nat} {A : CkS} (h : ClkIs w base cb mb A) : cb < w.heap.size ∧ mb < w.heap.size ∧ base ≤ cb := by
  obtain ⟨h1, h2, a, c, q, h3, h4, h5, h6⟩ := h
  exact ⟨(kit.blk h3.blk).2.2, h6.lt, h3.lob⟩
/-- What a call on a clock may change of what was there. -/
def CM (w : World) (base mb : Nat) : Nat → Prop := fun k => CQ w base k ∨ k = mb
theorem cm_trans {base mb : Nat} {w w1 w2 : World} (h1 : Keep (CM w base mb) w w1) (h2 : Keep (CM w1 base mb) w1 w2) : Keep (CM w base mb) w w2 := by
  refine ⟨h2.os.trans h1.os, h2.tape.trans h1.tape, h2.output.trans h1.output, Nat.le_trans h1.size h2.size, fun k hk hn => ?_⟩
  have e1 := h1.block k hk hn
  refine (h2.block k (Nat.lt_of_lt_of_le hk h1.size) (fun hs => hn ?_)).trans e1
  rcases hs with ⟨g1, cs, T, f, g2, g3⟩ | hs
  · exact .inl ⟨g1, cs, T, f, by rw [← e1]; exact g2, g3⟩
  · exact .inr hs
theorem cm_of {base mb : Nat} {w w1 : World} (h : Keep (CQ w base) w w1) : Keep (CM w base mb) w w1 := ⟨h.os, h.tape, h.output, h.size, fun k hk hn => h.block k hk (fun e => hn (.inl e))⟩
theorem cm_below {base mb : Nat} {w w1 : World} (h : Keep (CM w base mb) w w1) (hm : base ≤ mb) (hw : base ≤ w.heap.size) : Below base w w1 := h.below hw (fun k hk e => by
  rcases e with ⟨e, -⟩ | e <;> omega)
theorem q_len {q : List Tm} {s : List T3} (h : (q.map t3).Perm s) : q.length = s.length := by have := h.length_eq; rwa [List.length_map] at this
theorem q_nod {q : List Tm} {A : CkS} (h : (q.map t3).Perm A.s) (ho : Ok A) : Nod q := by
  rw [nod_t3]
  exact (List.Perm.pairwise_iff (fun {a b} hab => fun e => hab e.symm) h).2 ho.nod
theorem q_mem {q : List Tm} {s : List T3} (h : (q.map t3).Perm s) {t : Tm} (ht : t ∈ q) : t3 t ∈ s := h.mem_iff.1 (List.mem_map_of_mem ht)
theorem q_has {q : List Tm} {s : List T3} (h : (q.map t3).Perm s) (n : ByteArray) : has s n = true ↔ ∃ i, ∃ hi : i < q.length, q[i].nm = n := by
  rw [has_iff]
  constructor
  · rintro ⟨t, ht, e⟩
    obtain ⟨u, hu, rfl⟩ := List.mem_map.1 (h.mem_iff.2 ht)
    obtain ⟨i, hi, rfl⟩ := List.getElem_of_mem hu
    exact ⟨i, hi, e⟩
  · rintro ⟨i, hi, e⟩
    exact ⟨_, q_mem h (List.getElem_mem hi), e⟩
theorem key_nm {n : ByteArray} (h : n.size ≤ maxLen) : keyOf Try.prog 9 (.string n) = some (nk n) := Go.WideMaps.keyOf_string_mk (P := Try.prog) Try.underlying9 h
theorem run_delm {w : World} {b cnt : Nat} {f : Lit → Option Value} (h : MapAt w Try.prog 9 b f cnt) {key : Value} {kl : Lit} (hlit : WideAt.IsKeyLit kl) (hkey : keyOf Try.prog 9 key = some kl) (ty : TypeId) :
    ∃ w', (Builtin.delete_ #[49, 9] ty #[.map (some b), key]).run Try.prog w = .ok (.tuple #[]) w' ∧ MapAt w' Try.prog 9 b (dele f kl) (if (f kl).isSome then cnt - 1 else cnt) ∧ w.grownBy w' (some b) := by
  obtain ⟨D, hD, hn, hs⟩ := h
  have hti := hD.tidy keyedS
  obtain ⟨w', hr, hw, hg⟩ := hD.drop keyedS Try.underlying49 hkey ty
  refine ⟨w', hr, ?_, hg.grown⟩
  have hsz := Go.Maps.size_del (k := kl) hti
  rw [hs.has, hn] at hsz
  have hsz2 : Go.Maps.size (D.del kl) = if (f kl).isSome then cnt - 1 else cnt := by
    split <;> simp_all <;> omega
  refine ⟨D.del kl, ?_, hsz2, ?_⟩
  · obtain ⟨es, clock, hb, F, hs', hD'⟩ := hw
    refine ⟨es, clock, hb, F, ?_, hD'⟩
    rw [← hsz2, hD']
    simp only [Go.Maps.size]
    rw [length_sorted]
    simp
  · intro y
    by_cases e : y = kl
    · subst e
      rw [show dele f y y = none by simp [dele, WideAt.sameKey_self hlit]]
      exact Go.Maps.has_del_same
    · rw [show dele f kl y = f y by simp [dele, Go.Maps.sameKey_ne e]]
      have := hs y
      cases hf : f y with
      | none => rw [hf] at this; simp only at this ⊢; rw [Go.Maps.has_del_other e]; exact this
      | some u => rw [hf] at this; simp only at this ⊢; rw [Go.Maps.has_del_other e]; exact ⟨this.1, fun z => by rw [Go.Maps.atKey_del_other e]; exact this.2 z⟩

theorem cnew_ok (w : World) : Calls Try.prog 14 #[] w fun e w' => ∃ cb mb, e = .returned (.pointer (some ⟨cb, 0, none⟩)) ∧ ClkIs w' w.heap.size cb mb clkp.start ∧ Below w.heap.size w w' := by
  refine (new_ok w).mono ?_
  rintro e w' ⟨cb, mb, rfl, h, hb⟩
  refine ⟨cb, mb, rfl, ⟨h.lom, ok_start, none, 0, [], ⟨h.lob, h.blk, World.ownsRow_nil _ _ _ _, by simp, by simp, by simp⟩, by intro k h0 hk; simp at hk, List.Perm.refl _, ?_⟩, hb⟩
  have e : fm [] = fun _ => none := by funext y; cases y <;> rfl
  rw [e]
  exact h.map
theorem now_ok (w : World) (base cb mb : Nat) (A : CkS) (h : ClkIs w base cb mb A) : Calls Try.prog 10 #[.pointer (some ⟨cb, 0, none⟩)] w fun e w' => e = .returned (.int .i64 A.now) ∧ w = w' := by
  obtain ⟨h1, h2, a, c, q, h3, -⟩ := h
  have c0 : w.cell? ⟨cb, 0, none⟩ = some (.int .i64 A.now) := (kit.blk h3.blk).1 0
  clear h1 h2 h3
  go_enter Try.func10, Try.ntmps10
  go_wp2_with fail
  go_ret
  exact ⟨rfl, rfl⟩

theorem dues_find {A : CkS} (ho : Ok A) {t : T3} (ht : t ∈ A.s) : dueS A t.nm = some t.due := by
  unfold dueS
  cases hf : A.s.find? (fun u => decide (u.nm = t.nm)) with
  | none =>
    rw [List.find?_eq_none] at hf
    have := hf t ht
    simp at this
  | some u =>
    have h1 := List.mem_of_find?_eq_some hf
    have h2 := List.find?_some hf
    simp only [decide_eq_true_eq] at h2
    have : u = t := by
      have hn := ho.nod
      generalize A.s = s at h1 ht hn
      induction s with
      | nil => simp at ht
      | cons x s ih =>
        have hx := List.pairwise_cons.1 hn
        rcases List.mem_cons.1 ht with e1 | ht1
        · rcases List.mem_cons.1 h1 with e2 | hu1
          · rw [e1, e2]
          · rw [e1] at h2
            exact absurd h2.symm (hx.1 u hu1)
        · rcases List.mem_cons.1 h1 with e2 | hu1
          · rw [e2] at h2
            exact absurd h2 (hx.1 t ht1)
          · exact ih hu1 ht1 hx.2
    rw [this]; rfl
theorem dues_none {A : CkS} {n : ByteArray} (h : has A.s n = false) : dueS A n = none := by
  unfold dueS
  have hf : A.s.find? (fun u => decide (u.nm = n)) = none := by
    rw [List.find?_eq_none]
    intro t ht e
    have : has A.s n = true := has_iff.2 ⟨t, ht, by simpa using e⟩
    rw [h] at this; cases this
  rw [hf]; rfl

/-- What the look at the map gives. -/
theorem look_nm {w : World} {base cb mb : Nat} {A : CkS} {a : Option Addr} {c : Nat} {q : List Tm} (hq : QAt w base cb A.now A.turns (.map (some mb)) a c q) (hp : (q.map t3).Perm A.s) (hm : MapAt w Try.prog 9 mb (fm q) q.length) (ho : Ok A) {n : ByteArray} (hn : n.size ≤ maxLen) :
    (has A.s n = false ∧ fm q (nk n) = none ∧ (Instr.lookup 49 (.map (some mb)) (.string n) true).run Try.prog w = .ok (.tuple #[.pointer none, .bool false]) w) ∨
    (has A.s n = true ∧ ∃ i, ∃ hi : i < q.length, q[i].nm = n ∧ fm q (nk n) = some (clkp.ptr q[i]) ∧ (Instr.lookup 49 (.map (some mb)) (.string n) true).run Try.prog w = .ok (.tuple #[.pointer (some ⟨q[i].tb, 0, none⟩), .bool true]) w) := by
  have hlk := hm.run_look_ok keyedS Try.underlying49 (zeroT w) (key_nm hn)
  cases hh : has A.s n with
  | false =>
    left
    have hf : fm q (nk n) = none := fm_none (fun t ht e => by
      have : has A.s n = true := has_iff.2 ⟨t3 t, q_mem hp ht, nm_inj.1 e⟩
      rw [hh] at this; cases this)
    rw [hf] at hlk
    exact ⟨rfl, hf, hlk⟩
  | true =>
    right
    obtain ⟨i, hi, e⟩ := (q_has hp n).1 hh
    have hf : fm q (nk n) = some (clkp.ptr q[i]) := by rw [← e]; exact fm_some (q_nod hp ho) (List.getElem_mem hi)
    rw [hf] at hlk
    exact ⟨rfl, i, hi, e, hf, hlk⟩

theorem stop_ok (w : World) (base cb mb : Nat) (A : CkS) (n : ByteArray) (h : ClkIs w base cb mb A) (hbase : base ≤ w.heap.size) (hn : n.size ≤ maxLen) :
    Calls Try.prog 21 #[.pointer (some ⟨cb, 0, none⟩), .string n] w fun e w' => e = .returned (.bool (has A.s n)) ∧ ClkIs w' base cb mb (stopS A n) ∧ Keep (CM w base mb) w w' := by
  have HH := Lib.hid h
  obtain ⟨hlom, hok, a, c, q, hq, hhp, hp, hm⟩ := h
  obtain ⟨b1, b2, hzb⟩ := kit.blk hq.blk
  have c3 : w.cell? ⟨cb, 3, none⟩ = some (.map (some mb)) := b1 3
  have hcm : cb ≠ mb := by
    intro e
    obtain ⟨es, cl, hme⟩ := hm.obj
    rw [← e, hq.blk] at hme
    cases hme
  have hql : q.length ≤ 64 := by rw [q_len hp]; exact hok.len
  rcases look_nm hq hp hm hok hn with ⟨hh, hf, hlk⟩ | ⟨hh, i, hi, hnm, hf, hlk⟩
  · have HE : Hid (ClkIs w base cb mb (stopS A n)) := by
      have e : stopS A n = A := by
        have e2 : rm A.s n = A.s := List.filter_eq_self.2 (fun t ht => decide_eq_true (fun e => by
          have : has A.s n = true := has_iff.2 ⟨t, ht, e⟩
          rw [hh] at this; cases this))
        unfold stopS
        rw [e2]
      rw [Hid, e]
      exact HH.out
    rw [hh]
    clear hq hhp hp hm hok hf b1 b2 hh
    go_enter Try.func21, Try.ntmps21
    go_wp2_with fail
    go_ret
    exact ⟨rfl, HE.out, Keep.refl _ _⟩
  · rw [hh]
    have ht := hq.tms i hi
    obtain ⟨t1, t2, htz⟩ := kit.blk ht
    have tp : w.cell? ⟨q[i].tb, 3, none⟩ = some (.int .i64 i) := t1 3
    have hbd : Below w.heap.size w w.drew := below_drewN (Below.refl _ w) 1
    have HR := Lib.hid (hremove_ok w.drew base cb A.now A.turns (.map (some mb)) a c q (hq.below hbd) i hi hql hhp)
    have hnod := q_nod hp hok
    have hlen : (q.eraseIdx i).length = q.length - 1 := by rw [List.length_eraseIdx, if_pos hi]
    have HFIN : Hid (∀ (w3 : World) (q' : List Tm), QAt w3 base cb A.now A.turns (.map (some mb)) a c q' → q'.Perm (q.eraseIdx i) → Hp q' q'.length → Keep (CQ w.drew base) w.drew w3 →
        ∃ w4, (Builtin.delete_ #[49, 9] 0 #[.map (some mb), .string n]).run Try.prog w3 = .ok (.tuple #[]) w4 ∧ ClkIs w4 base cb mb (stopS A n) ∧ Keep (CM w base mb) w w4) := by
      intro w3 q' hq' hp' hh' hk'
      have hk3 : Keep (CQ w base) w w3 := ⟨hk'.os, hk'.tape, hk'.output, hk'.size, hk'.block⟩
      obtain ⟨es, cl, hme⟩ := hm.obj
      have hm3 : MapAt w3 Try.prog 9 mb (fm q) q.length := hm.keep hk3 (by
        rintro ⟨-, cs, T, f, e, -⟩
        rw [hme] at e; cases e)
      obtain ⟨w4, hrun, hm4, hg4⟩ := run_delm hm3 (key := .string n) (kl := nk n) trivial (key_nm hn) 0
      refine ⟨w4, hrun, ⟨hlom, ok_stop hok n, a, c, q', ?_, hh', ?_, ?_⟩, ?_⟩
      · have hne : ∀ k, k < w3.heap.size → k ≠ mb → w4.heap[k]? = w3.heap[k]? := fun k hk hkm => hg4.block k hk (fun e => hkm (Option.some.inj e))
        have hmm : ∀ (k : Nat) (o : Obj), w3.heap[k]? = some o → (∃ cs T f, o = .cells cs T f) → k ≠ mb := by
          rintro k o ho ⟨cs, T, f, rfl⟩ rfl
          obtain ⟨es3, cl3, hme3⟩ := hm3.obj
          rw [hme3] at ho; cases ho
        refine ⟨hq'.lob, (hne cb (kit.blk hq'.blk).2.2 hcm).trans hq'.blk, own_kept hq'.row (fun g hg => hne g (own_from hq'.row g hg).2 ?_), fun k hk => ?_, hq'.lot, hq'.num⟩
        · obtain ⟨cur, hcur⟩ := own_heap hq'.row g hg
          exact hmm g _ hcur ⟨_, _, _, rfl⟩
        · have h9 := hq'.tms k hk
          exact (hne _ (kit.blk h9).2.2 (hmm _ _ h9 ⟨_, _, _, rfl⟩)).trans h9
      · have h9 := (hp'.map t3).trans (erase_rm hnod hp hi)
        rw [hnm] at h9
        exact h9
      · rw [hf] at hm4
        simp only [Option.isSome_some, if_true] at hm4
        have e1 : dele (fm q) (nk n) = fm q' := by
          refine fm_del hnod ?_ n (fun t => ?_)
          · exact (nod_perm hp').2 ((List.pairwise_cons.1 ((nod_perm (erase_perm q i hi)).1 hnod)).2)
          · rw [hp'.mem_iff, erase_mem hnod hi, hnm]
        rw [e1] at hm4
        have e2 : q'.length = q.length - 1 := by rw [hp'.length_eq, hlen]
        rw [e2]
        exact hm4
      · have hg : Keep (CM w3 base mb) w3 w4 := ⟨hg4.os, hg4.tape, hg4.output, hg4.size, fun k hk hn => hg4.block k hk (fun e => hn (.inr (Option.some.inj e)))⟩
        exact cm_trans (cm_of hk3) hg
    have hcbl : Hid (∀ (w3 : World) (q' : List Tm), QAt w3 base cb A.now A.turns (.map (some mb)) a c q' → w3.cell? ⟨cb, 3, none⟩ = some (.map (some mb))) := fun w3 q' h9 => (kit.blk h9.blk).1 3
    obtain ⟨tb, htb⟩ : ∃ x, x = q[i].tb := ⟨_, rfl⟩
    rw [← htb] at hlk tp htz
    clear hq hhp hp hm hok hf b1 b2 hh ht t1 t2 hbd hnod hlen htb hnm
    go_enter Try.func21, Try.ntmps21
    go_wp2_with fail
    go_still_tail 8, (by kernel_rfl)
    change wpList _ _ _ _ _ w.drew
    go_wp2_with fail
    refine HR.out.mono ?_; rintro e w3 ⟨v, rfl, q', hq', hp', hh', hk'⟩
    obtain ⟨w4, hdel, hE1, hE2⟩ := HFIN.out w3 q' hq' hp' hh' hk'
    have c3' := hcbl.out w3 q' hq'
    have HE := Lib.hid (And.intro hE1 hE2)
    clear hq' hp' hh' hk' hE1 hE2 hlk c3 tp
    go_wp2_with fail
    go_ret
    exact ⟨rfl, HE.out⟩

theorem due_ok (w : World) (base cb mb : Nat) (A : CkS) (n : ByteArray) (h : ClkIs w base cb mb A) (hn : n.size ≤ maxLen) :
    Calls Try.prog 12 #[.pointer (some ⟨cb, 0, none⟩), .string n] w fun e w' => e = .returned (.tuple #[.int .i64 ((dueS A n).getD 0), .bool (dueS A n).isSome]) ∧ w = w' := by
  obtain ⟨hlom, hok, a, c, q, hq, hhp, hp, hm⟩ := h
  obtain ⟨b1, b2, hzb⟩ := kit.blk hq.blk
  have c3 : w.cell? ⟨cb, 3, none⟩ = some (.map (some mb)) := b1 3
  rcases look_nm hq hp hm hok hn with ⟨hh, hf, hlk⟩ | ⟨hh, i, hi, hnm, hf, hlk⟩
  · rw [dues_none hh]
    clear hq hhp hp hm hok hf b1 b2 hh
    go_enter Try.func12, Try.ntmps12
    go_wp2_with fail
    exact bodyPost_ret (v := .tuple #[.int .i64 0, .bool false]) (by simp [results, Try.results12, go_sem]) rfl ⟨rfl, rfl⟩
  · have hd : dueS A n = some q[i].due := by
      have h9 := dues_find hok (q_mem hp (List.getElem_mem hi))
      rw [show (t3 q[i]).nm = n from hnm] at h9
      exact h9
    rw [hd]
    obtain ⟨t1, t2, htz⟩ := kit.blk (hq.tms i hi)
    have td : w.cell? ⟨q[i].tb, 1, none⟩ = some (.int .i64 q[i].due) := t1 1
    obtain ⟨tb, htb⟩ : ∃ x, x = q[i].tb := ⟨_, rfl⟩
    obtain ⟨d, hdd⟩ : ∃ x, x = q[i].due := ⟨_, rfl⟩
    rw [← htb] at hlk td htz
    rw [← hdd] at td ⊢
    clear hq hhp hp hm hok hf b1 b2 hh hd t1 t2 htb hdd hnm
    go_enter Try.func12, Try.ntmps12
    go_wp2_with fail
    exact bodyPost_ret (v := .tuple #[.int .i64 d, .bool true]) (by simp [results, Try.results12, go_sem]) rfl ⟨rfl, rfl⟩
theorem set_arg (w : World) (base cb mb : Nat) (A : CkS) (n : ByteArray) (i : Int) (h : ClkIs w base cb mb A) (hn : n.size ≤ maxLen) (hE : n.size < 1 ∨ 16 < n.size ∨ i < 1 ∨ 2147483647 < i) :
    Calls Try.prog 11 #[.pointer (some ⟨cb, 0, none⟩), .string n, .int .i64 i] w fun e w' => e = .returned (.int .i64 1) ∧ w = w' := by
  clear h
  unfold maxLen at hn
  obtain ⟨m, hm⟩ : ∃ m, m = n.size := ⟨_, rfl⟩
  by_cases h1 : n.size < 1
  · have d1 : decide ((n.size : Int) < 1) = true := decide_eq_true (by omega)
    have d2 : (n.size : Int) < 1 := by omega
    clear hE
    go_enter Try.func11, Try.ntmps11
    go_wp2_with fail
    go_ret
    exact ⟨rfl, rfl⟩
  have d1 : decide ((n.size : Int) < 1) = false := decide_eq_false (by omega)
  have d1' : ¬ (n.size : Int) < 1 := by omega
  by_cases h2 : 16 < n.size
  · have d2 : decide ((16 : Int) < (n.size : Int)) = true := decide_eq_true (by omega)
    have d2' : (16 : Int) < (n.size : Int) := by omega
    clear hE
    go_enter Try.func11, Try.ntmps11
    go_wp2_with fail
    go_ret
    exact ⟨rfl, rfl⟩
  have d2 : decide ((16 : Int) < (n.size : Int)) = false := decide_eq_false (by omega)
  have d2' : ¬ (16 : Int) < (n.size : Int) := by omega
  by_cases h3 : i < 1
  · have d3 : decide (i < 1) = true := decide_eq_true h3
    clear hE
    go_enter Try.func11, Try.ntmps11
    go_wp2_with fail
    go_ret
    exact ⟨rfl, rfl⟩
  have d3 : decide (i < 1) = false := decide_eq_false h3
  have h4 : 2147483647 < i := by omega
  have d4 : decide (2147483647 < i) = true := decide_eq_true h4
  clear hE
  go_enter Try.func11, Try.ntmps11
  go_wp2_with fail
  go_ret
  exact ⟨rfl, rfl⟩

theorem set_full (w : World) (base cb mb : Nat) (A : CkS) (n : ByteArray) (i : Int) (h : ClkIs w base cb mb A) (h1 : 1 ≤ n.size ∧ n.size ≤ 16) (h2 : 1 ≤ i ∧ i ≤ 2147483647) (h3 : has A.s n = false) (h4 : 64 ≤ A.s.length) :
    Calls Try.prog 11 #[.pointer (some ⟨cb, 0, none⟩), .string n, .int .i64 i] w fun e w' => e = .returned (.int .i64 3) ∧ w = w' := by
  obtain ⟨hlom, hok, a, c, q, hq, hhp, hp, hm⟩ := h
  obtain ⟨b1, b2, hzb⟩ := kit.blk hq.blk
  have c3 : w.cell? ⟨cb, 3, none⟩ = some (.map (some mb)) := b1 3
  have c2 : w.cell? ⟨cb, 2, none⟩ = some (.slice a q.length c) := b1 2
  have hql : q.length = A.s.length := q_len hp
  have hl := hok.len
  rcases look_nm hq hp hm hok (n := n) (by unfold maxLen; omega) with ⟨hh, hf, hlk⟩ | ⟨hh, -⟩
  · have d1 : decide ((n.size : Int) < 1) = false := decide_eq_false (by omega)
    have d1' : ¬ (n.size : Int) < 1 := by omega
    have d2 : decide ((16 : Int) < (n.size : Int)) = false := decide_eq_false (by omega)
    have d2' : ¬ (16 : Int) < (n.size : Int) := by omega
    have d3 : decide (i < 1) = false := decide_eq_false (by omega)
    have d4 : decide (2147483647 < i) = false := decide_eq_false (by omega)
    obtain ⟨ql, hqld⟩ : ∃ x, x = q.length := ⟨_, rfl⟩
    rw [← hqld] at c2 hql
    have hq64 : ql ≤ 64 := by omega
    have d5 : decide ((64 : Int) ≤ (ql : Int)) = true := decide_eq_true (by omega)
    clear hq hhp hp hm hok hf b1 b2 hh h1 h2 h3 h4 hqld hql hl
    go_enter Try.func11, Try.ntmps11
    go_wp2_with fail
    go_ret
    exact ⟨rfl, rfl⟩
  · rw [h3] at hh; cases hh

theorem set_yes (w : World) (base cb mb : Nat) (A : CkS) (n : ByteArray) (i : Int) (h : ClkIs w base cb mb A) (hbase : base ≤ w.heap.size) (hE : setE A n i = 0) (htn : A.turns + 1 ≤ 1125899906842624) :
    Calls Try.prog 11 #[.pointer (some ⟨cb, 0, none⟩), .string n, .int .i64 i] w fun e w' => e = .returned (.int .i64 0) ∧ ClkIs w' base cb mb (setS A n i) ∧ Keep (CM w base mb) w w' := by
  obtain ⟨h1, h2, h3⟩ := set0 hE
  have HOK := Lib.hid (ok_set h.ok hE htn)
  have hnm : n.size ≤ maxLen := by unfold maxLen; omega
  have HST := Lib.hid (stop_ok w base cb mb A n h hbase hnm)
  have HKL := Lib.hid (key_nm hnm)
  have hnow := h.ok.num
  have hS : setS A n i = ⟨A.now, A.turns + 1, ins (rm A.s n) ⟨n, A.now + i, A.turns + 1⟩⟩ := by rw [setS, if_pos hE]
  have HS := Lib.hid hS
  have HNUM : Hid (∀ {w : World} {a : Option Addr} {c : Nat} {q1 : List Tm}, (q1.map t3).Perm (rm A.s n) → q1.length < 64) := by
    intro w a c q1 hp1
    rw [q_len hp1]
    have hl := h.ok.len
    rcases h3 with h3 | h3
    · have := rm_length h3; omega
    · have : (rm A.s n).length ≤ A.s.length := List.length_filter_le _ _
      omega
  obtain ⟨hlom, hok, a, c, q, hq, hhp, hp, hm⟩ := h
  obtain ⟨b1, b2, hzb⟩ := kit.blk hq.blk
  have c3 : w.cell? ⟨cb, 3, none⟩ = some (.map (some mb)) := b1 3
  have c2 : w.cell? ⟨cb, 2, none⟩ = some (.slice a q.length c) := b1 2
  have hql : q.length ≤ 64 := by rw [q_len hp]; exact hok.len
  have d1 : decide ((n.size : Int) < 1) = false := decide_eq_false (by omega)
  have d1' : ¬ (n.size : Int) < 1 := by omega
  have d2 : decide ((16 : Int) < (n.size : Int)) = false := decide_eq_false (by omega)
  have d2' : ¬ (16 : Int) < (n.size : Int) := by omega
  have d3 : decide (i < 1) = false := decide_eq_false (by omega)
  have d4 : decide (2147483647 < i) = false := decide_eq_false (by omega)
  have hqn := fun w => run_eql_map_nil_sl (P := Try.prog) w 49 _ _ (some mb) Try.underlying49
  obtain ⟨ql, hqld⟩ : ∃ x, x = q.length := ⟨_, rfl⟩
  have hlook : ∃ v s, (Instr.lookup 49 (.map (some mb)) (.string n) true).run Try.prog w = .ok (.tuple #[v, .bool s]) w ∧ (s = true ∨ s = false ∧ decide ((64 : Int) ≤ (ql : Int)) = false) := by
    rcases look_nm hq hp hm hok hnm with ⟨hh, hf, hlk⟩ | ⟨hh, i, hi, hnm, hf, hlk⟩
    · refine ⟨_, _, hlk, .inr ⟨rfl, decide_eq_false ?_⟩⟩
      rcases h3 with h3 | h3
      · rw [h3] at hh; cases hh
      · rw [hqld, q_len hp]; omega
    · exact ⟨_, _, hlk, .inl rfl⟩
  obtain ⟨v9, s9, hlk, hcase⟩ := hlook
  rw [← hqld] at c2 hql
  have HNR : Hid ((rm A.s n).Pairwise (fun a b => a.nm ≠ b.nm)) := hok.nod.filter _
  have hwrapT : IntKind.i64.wrap (A.turns + 1) = A.turns + 1 := IntWalk.i64_in _ (by omega)
  have hwrapD : IntKind.i64.wrap (A.now + i) = A.now + i := IntWalk.i64_in _ (by omega)
  clear hq hhp hp hm hok b1 b2 h1 h3 hqld hE hnm hS
  rcases hcase with rfl | ⟨rfl, d5⟩
  all_goals
    go_enter Try.func11, Try.ntmps11
    go_wp2_with fail
    refine HST.out.mono ?_; rintro e w1 ⟨rfl, hC1, hk1⟩
    obtain ⟨-, -, a1, c1, q1, hq1, hh1, hp1, hm1⟩ := hC1
    have hp1 : (q1.map t3).Perm (rm A.s n) := hp1
    obtain ⟨b1, b2, hzb1⟩ := kit.blk hq1.blk
    have x1 : w1.cell? ⟨cb, 1, none⟩ = some (.int .i64 A.turns) := b1 1
    have x0 : w1.cell? ⟨cb, 0, none⟩ = some (.int .i64 A.now) := b1 0
    have x3 : w1.cell? ⟨cb, 3, none⟩ = some (.map (some mb)) := b1 3
    have f1 : w1.frozen? ⟨cb, 1, none⟩ = false := b2 1
    have hql1 : q1.length < 64 := HNUM.out (w := w1) (a := a1) (c := c1) hp1
    have HQ1 := Lib.hid hq1
    have HH1 := Lib.hid hh1
    have HP1 := Lib.hid hp1
    have HM1 := Lib.hid hm1
    have HK1 := Lib.hid hk1
    clear hq1 hh1 hp1 hm1 hk1 b1 b2 HST hlk c2 c3
    go_wp2_with fail
    go_region
    obtain ⟨wt, hwt⟩ : ∃ wt : World, wt = ((w1.setCell ⟨cb, 1, none⟩ (.int .i64 (A.turns + 1))).alloc (.cells #[.string n, .int .i64 (A.now + i), .int .i64 (A.turns + 1), .int .i64 0] 55)).drew := ⟨_, rfl⟩
    have hsz : (w1.setCell ⟨cb, 1, none⟩ (.int .i64 (A.turns + 1))).heap.size = w1.heap.size := size_set _ _ _
    obtain ⟨t, ht⟩ : ∃ t : Tm, t = ⟨n, A.now + i, A.turns + 1, w1.heap.size⟩ := ⟨_, rfl⟩
    have hTt : TAt wt t 0 := by
      rw [hwt, ht]
      have := hp_alloc_new (w1.setCell ⟨cb, 1, none⟩ (.int .i64 (A.turns + 1))) (.cells #[.string n, .int .i64 (A.now + i), .int .i64 (A.turns + 1), .int .i64 0] 55)
      rw [hsz] at this
      exact this
    have hold : ∀ k, k < w1.heap.size → k ≠ cb → wt.heap[k]? = w1.heap[k]? := by
      intro k hk hne
      rw [hwt]
      exact (hp_alloc_old (by rw [hsz]; exact hk)).trans (hp_set_ne hne)
    have hblkt : wt.heap[cb]? = some (.cells #[.int .i64 A.now, .int .i64 (A.turns + 1), .slice a1 q1.length c1, .map (some mb)] 51 (0, 0)) := by
      rw [hwt]
      exact hp_new (hp_set HQ1.out.blk 1 _)
    have hcm : mb ≠ cb := by
      intro e
      obtain ⟨es, cl, hme⟩ := HM1.out.obj
      have h9 := HQ1.out.blk
      rw [← e, hme] at h9
      cases h9
    have hQt : QAt wt base cb A.now (A.turns + 1) (.map (some mb)) a1 c1 q1 := by
      have h9 := HQ1.out
      refine ⟨h9.lob, hblkt, own_kept h9.row (fun g hg => hold g (own_from h9.row g hg).2 (fun e => own_ne h9.row h9.blk (by decide) g hg e)), fun k hk => ?_, h9.lot, h9.num⟩
      have h8 := h9.tms k hk
      exact (hold _ (kit.blk h8).2.2 (qat_cb h9 h8)).trans h8
    have hMt : MapAt wt Try.prog 9 mb (fm q1) q1.length := HM1.out.to (hold mb HM1.out.lt hcm)
    have hszt : wt.heap.size = w1.heap.size + 1 := by
      rw [hwt]
      exact (size_new (w1.setCell ⟨cb, 1, none⟩ (.int .i64 (A.turns + 1))) _).trans (by rw [hsz])
    have hkt : Keep (CM w1 base mb) w1 wt := by
      rw [hwt]
      exact (((Keep.refl (CM w1 base mb) w1).setCell (p := ⟨cb, 1, none⟩) (.inr (.inl ⟨HQ1.out.lob, _, _, _, HQ1.out.blk, .inl rfl⟩)) _).alloc _).drew
    have c3t : wt.cell? ⟨cb, 3, none⟩ = some (.map (some mb)) := (kit.blk hblkt).1 3
    have HQB : Hid (∀ k (hk : k < q1.length), q1[k].tb < w1.heap.size) := fun k hk => (kit.blk (HQ1.out.tms k hk)).2.2
    have HT := Lib.hid ht
    have HTT := Lib.hid hTt
    have HQT := Lib.hid hQt
    have HMT := Lib.hid hMt
    have HKT := Lib.hid (cm_trans HK1.out hkt)
    have HWT := Lib.hid hwt
    have hw1s : base ≤ w1.heap.size := Nat.le_trans hbase HK1.out.size
    have hlm : q1.length < maxLen := by unfold maxLen; omega
    have hnone : fm q1 (nk n) = none := fm_none (fun u hu e => (mem_rm.1 (q_mem HP1.out hu)).2 (nm_inj.1 e))
    rw [← hwt]
    clear hsz hTt hold hblkt hQt hMt hkt hwt x0 x1 x3 f1 ht HM1 HQ1
    go_wp2_with (at_mapUpdate; refine wpl_store rfl _ _ _ 49 rfl 52 keyedS Try.underlying49 rfl HMT.out hlm _ _ (nk n) rfl rfl HKL.out trivial ?_)
    intro w2 hm2 hgr2
    have hnod1 : Nod q1 := nod_t3.2 ((List.Perm.pairwise_iff (fun {a b} hab => fun e => hab e.symm) HP1.out).2 (HNR.out))
    have htm : t.nm = n ∧ t.due = A.now + i ∧ t.turn = A.turns + 1 ∧ t.tb = w1.heap.size := by rw [HT.out]; exact ⟨rfl, rfl, rfl, rfl⟩
    obtain ⟨ht1, ht2, ht3, ht4⟩ := htm
    have hm2' : MapAt w2 Try.prog 9 mb (fm (q1 ++ [t])) (q1.length + 1) := by
      have h9 := fm_add hnod1 (t := t) (fun u hu e => (mem_rm.1 (q_mem HP1.out hu)).2 (e.trans ht1))
      rw [ht1] at h9
      rw [← h9]
      unfold clkp.ptr
      rw [ht4]
      exact hm2
    have hk2 : Keep (CM wt base mb) wt w2 := ⟨hgr2.os, hgr2.tape, hgr2.output, hgr2.size, fun k hk hn => hgr2.block k hk (fun e => hn (.inr (Option.some.inj e)))⟩
    have hmm : ∀ (k : Nat) (o : Obj), wt.heap[k]? = some o → (∃ cs T f, o = .cells cs T f) → w2.heap[k]? = some o := by
      rintro k o ho ⟨cs, T, f, rfl⟩
      refine (hgr2.block k (Array.getElem?_eq_some_iff.1 ho).1 (fun e => ?_)).trans ho
      obtain ⟨es3, cl3, hme3⟩ := HMT.out.obj
      rw [Option.some.inj e, hme3] at ho; cases ho
    have hQ2 : QAt w2 base cb A.now (A.turns + 1) (.map (some mb)) a1 c1 q1 := by
      have h9 := HQT.out
      refine ⟨h9.lob, hmm _ _ h9.blk ⟨_, _, _, rfl⟩, own_kept h9.row (fun g hg => ?_), fun k hk => hmm _ _ (h9.tms k hk) ⟨_, _, _, rfl⟩, h9.lot, h9.num⟩
      obtain ⟨cur, hcur⟩ := own_heap h9.row g hg
      rw [hcur]
      exact hmm _ _ hcur ⟨_, _, _, rfl⟩
    have hT2 : TAt w2 t 0 := hmm _ _ HTT.out ⟨_, _, _, rfl⟩
    have hnum : Num t := by unfold Num; rw [ht2, ht3]; omega
    have hnet : ∀ x ∈ q1, x.tb ≠ t.tb := by
      intro x hx e
      obtain ⟨k, hk, rfl⟩ := List.getElem_of_mem hx
      have h8 := HQB.out k hk
      omega
    have HPU := Lib.hid (hpush_ok w2 base cb A.now (A.turns + 1) (.map (some mb)) a1 c1 q1 t 0 hQ2 (by have := hgr2.size; omega) hT2 (by omega) hnum hnet hql1 HH1.out)
    rw [ht4] at HPU
    have HFIN : Hid (∀ (w3 : World) (a' : Option Addr) (c' : Nat) (q' : List Tm), QAt w3 base cb A.now (A.turns + 1) (.map (some mb)) a' c' q' → q'.Perm (q1 ++ [t]) → Hp q' q'.length → Keep (CQ w2 base) w2 w3 → ClkIs w3 base cb mb (setS A n i) ∧ Keep (CM w base mb) w w3) := by
      intro w3 a' c' q' hq' hp' hh' hk'
      refine ⟨⟨hlom, HOK.out, a', c', q', ?_, hh', ?_, ?_⟩, cm_trans (cm_trans HKT.out hk2) (cm_of hk')⟩
      · rw [HS.out]; exact hq'
      · rw [HS.out]
        refine (hp'.map t3).trans ?_
        rw [List.map_append]
        have h8 : t3 t = ⟨n, A.now + i, A.turns + 1⟩ := by unfold t3; rw [ht1, ht2, ht3]
        rw [show [t].map t3 = [(⟨n, A.now + i, A.turns + 1⟩ : T3)] by rw [List.map_singleton, h8]]
        exact (HP1.out.append_right _).trans (perm_ins _ _).symm
      · have hN : Nod (q1 ++ [t]) := List.pairwise_append.2 ⟨hnod1, List.pairwise_singleton _ _, fun u hu v hv => by
          rw [List.mem_singleton.1 hv]
          exact fun e => (mem_rm.1 (q_mem HP1.out hu)).2 (e.trans ht1)⟩
        have e1 : fm q' = fm (q1 ++ [t]) := fm_eq ((nod_perm hp').2 hN) hN (fun x => hp'.mem_iff)
        have e2 : q'.length = q1.length + 1 := by rw [hp'.length_eq]; simp
        rw [e1, e2]
        refine hm2'.keep hk' ?_
        rintro ⟨-, cs, T, f, e, -⟩
        obtain ⟨es3, cl3, hme3⟩ := hm2'.obj
        rw [hme3] at e; cases e
    have c3t2 : w2.cell? ⟨cb, 3, none⟩ = some (.map (some mb)) := (kit.blk hQ2.blk).1 3
    clear hm2 hm2' hgr2 hk2 hmm hQ2 hT2 hnum hnet ht1 ht2 ht3 ht4 hnone hnod1 c3t
    go_wp2_with fail
    refine HPU.out.mono ?_; rintro e w3 ⟨rfl, a', c', q', hq', hp', hh', hk'⟩
    have HE := Lib.hid (HFIN.out w3 a' c' q' hq' hp' hh' hk')
    clear hq' hp' hh' hk' HPU
    go_wp2_with fail
    go_ret
    exact ⟨rfl, HE.out⟩
theorem set_ok (w : World) (base cb mb : Nat) (A : CkS) (n : ByteArray) (i : Int) (h : ClkIs w base cb mb A) (hbase : base ≤ w.heap.size) (hn : n.size ≤ maxLen) (htn : A.turns + 1 ≤ 1125899906842624) :
    Calls Try.prog 11 #[.pointer (some ⟨cb, 0, none⟩), .string n, .int .i64 i] w fun e w' => e = .returned (.int .i64 (setE A n i)) ∧ ClkIs w' base cb mb (setS A n i) ∧ Keep (CM w base mb) w w' := by
  by_cases hE : setE A n i = 0
  · rw [hE]; exact set_yes w base cb mb A n i h hbase hE htn
  · have hS : setS A n i = A := by rw [setS, if_neg hE]
    rw [hS]
    by_cases h1 : n.size < 1 ∨ 16 < n.size ∨ i < 1 ∨ 2147483647 < i
    · have e : setE A n i = 1 := by rw [setE, if_pos h1]
      rw [e]
      refine (set_arg w base cb mb A n i h hn h1).mono ?_
      rintro e w' ⟨rfl, rfl⟩
      exact ⟨rfl, h, Keep.refl _ _⟩
    · have h2 : has A.s n = false ∧ 64 ≤ A.s.length := by
        rw [setE, if_neg h1] at hE
        apply Decidable.byContradiction
        intro h3
        rw [if_neg h3] at hE
        exact hE rfl
      have e : setE A n i = 3 := by rw [setE, if_neg h1, if_pos h2]
      rw [e]
      refine (set_full w base cb mb A n i h (by omega) (by omega) h2.1 h2.2).mono ?_
      rintro e w' ⟨rfl, rfl⟩
      exact ⟨rfl, h, Keep.refl _ _⟩
end Go.Proofs.Ytejjnhgiijhglaa.clks
