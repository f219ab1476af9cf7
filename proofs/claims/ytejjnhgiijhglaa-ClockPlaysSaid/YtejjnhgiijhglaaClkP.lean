/-
  A clock as data: what Set, Stop, Due and Tick do; the map of its timers.
-/
import Derived.Test.YtejjnhgiijhglaaHeapP
import Derived.Test.YtejjnhgiijhglaaMapKit
namespace Go.Proofs.Ytejjnhgiijhglaa.clkp
open Go.Proofs.Ytejjnhgiijhglaa.heapp Go.Proofs.Ytejjnhgiijhglaa.mapkit
set_option linter.unusedVariables false
set_option linter.unusedSimpArgs false
set_option maxHeartbeats 1000000

structure T3 where
  nm : ByteArray
  due : Int
  turn : Int
def t3 (t : Tm) : T3 := ⟨t.nm, t.due, t.turn⟩
def lt3 (a b : T3) : Prop := a.due < b.due ∨ a.due = b.due ∧ a.turn < b.turn
/-- A clock: its ticks, its turns, its timers as they stand by the time at which they are due, and by turn. -/
structure CkS where
  now : Int
  turns : Int
  s : List T3
def has (s : List T3) (n : ByteArray) : Bool := s.any (fun t => decide (t.nm = n))
def rm (s : List T3) (n : ByteArray) : List T3 := s.filter (fun t => decide (t.nm ≠ n))
structure Ok (A : CkS) : Prop where
  srt : A.s.Pairwise lt3
  nod : A.s.Pairwise (fun a b => a.nm ≠ b.nm)
  trn : ∀ t ∈ A.s, 1 ≤ t.turn ∧ t.turn ≤ A.turns
  fut : ∀ t ∈ A.s, A.now ≤ t.due ∧ t.due ≤ A.now + 2147483647
  siz : ∀ t ∈ A.s, 1 ≤ t.nm.size ∧ t.nm.size ≤ 16
  len : A.s.length ≤ 64
  num : (0 ≤ A.now ∧ A.now ≤ 1125899906842624) ∧ 0 ≤ A.turns ∧ A.turns ≤ 1125899906842624
/-- Nothing is due any more. -/
def Fut (A : CkS) : Prop := ∀ t ∈ A.s, A.now < t.due
def start : CkS := ⟨0, 0, []⟩
theorem ok_start : Ok start := ⟨List.Pairwise.nil, List.Pairwise.nil, by simp [start], by simp [start], by simp [start], by simp [start], by simp [start]⟩
def stopS (A : CkS) (n : ByteArray) : CkS := ⟨A.now, A.turns, rm A.s n⟩
def setE (A : CkS) (n : ByteArray) (i : Int) : Int := if n.size < 1 ∨ 16 < n.size ∨ i < 1 ∨ 2147483647 < i then 1 else if has A.s n = false ∧ 64 ≤ A.s.length then 3 else 0
def ins (s : List T3) (t : T3) : List T3 := s.filter (fun x => decide (x.due ≤ t.due)) ++ t :: s.filter (fun x => decide (t.due < x.due))
def setS (A : CkS) (n : ByteArray) (i : Int) : CkS := if setE A n i = 0 then ⟨A.now, A.turns + 1, ins (rm A.s n) ⟨n, A.now + i, A.turns + 1⟩⟩ else A
def dueS (A : CkS) (n : ByteArray) : Option Int := (A.s.find? (fun t => decide (t.nm = n))).map T3.due
def tickS (A : CkS) : CkS := ⟨A.now + 1, A.turns, A.s.filter (fun x => decide (A.now + 1 < x.due))⟩
def told (A : CkS) : List ByteArray := (A.s.filter (fun x => decide (x.due ≤ A.now + 1))).map T3.nm

theorem ok_stop {A : CkS} (h : Ok A) (n : ByteArray) : Ok (stopS A n) :=
  ⟨h.srt.filter _, h.nod.filter _, fun t ht => h.trn t (List.mem_filter.1 ht).1, fun t ht => h.fut t (List.mem_filter.1 ht).1, fun t ht => h.siz t (List.mem_filter.1 ht).1, Nat.le_trans (List.length_filter_le _ _) h.len, h.num⟩
theorem mem_ins {s : List T3} {t x : T3} : x ∈ ins s t ↔ x = t ∨ x ∈ s := by
  rw [ins, List.mem_append, List.mem_cons, List.mem_filter, List.mem_filter]
  simp only [decide_eq_true_eq]
  constructor
  · rintro (h | h | h)
    · exact .inr h.1
    · exact .inl h
    · exact .inr h.1
  · rintro (h | h)
    · exact .inr (.inl h)
    · by_cases e : x.due ≤ t.due
      · exact .inl ⟨h, e⟩
      · exact .inr (.inr ⟨h, by omega⟩)
theorem perm_ins (s : List T3) (t : T3) : (ins s t).Perm (s ++ [t]) := by
  have h1 : (s.filter (fun x => decide (x.due ≤ t.due)) ++ s.filter (fun x => decide (t.due < x.due))).Perm s := by
    have e : s.filter (fun x => decide (t.due < x.due)) = s.filter (fun x => !decide (x.due ≤ t.due)) := by
      congr 1
      funext x
      by_cases h : x.due ≤ t.due <;> simp [h] <;> omega
    rw [e]
    exact List.filter_append_perm _ _
  have h2 : (ins s t).Perm (t :: (s.filter (fun x => decide (x.due ≤ t.due)) ++ s.filter (fun x => decide (t.due < x.due)))) := List.perm_middle
  exact h2.trans ((List.Perm.cons t h1).trans (List.perm_append_comm (l₁ := [t]) (l₂ := s)))
theorem mem_rm {s : List T3} {n : ByteArray} {x : T3} : x ∈ rm s n ↔ x ∈ s ∧ x.nm ≠ n := by simp [rm, List.mem_filter]
theorem has_iff {s : List T3} {n : ByteArray} : has s n = true ↔ ∃ t ∈ s, t.nm = n := by simp [has]
theorem set0 {A : CkS} {n : ByteArray} {i : Int} (h : setE A n i = 0) : (1 ≤ n.size ∧ n.size ≤ 16) ∧ (1 ≤ i ∧ i ≤ 2147483647) ∧ (has A.s n = true ∨ A.s.length < 64) := by
  rw [setE] at h
  split at h
  · omega
  · rename_i h1
    split at h
    · omega
    · rename_i h2
      refine ⟨by omega, by omega, ?_⟩
      cases hh : has A.s n with
      | true => exact .inl rfl
      | false => exact .inr (Nat.lt_of_not_le (fun e => h2 ⟨hh, e⟩))
theorem rm_length {s : List T3} {n : ByteArray} (h : has s n = true) : (rm s n).length < s.length := by
  obtain ⟨t, ht, e⟩ := has_iff.1 h
  exact List.length_filter_lt_length_iff_exists.2 ⟨t, ht, by simp [e]⟩
theorem ok_set {A : CkS} (h : Ok A) {n : ByteArray} {i : Int} (hE : setE A n i = 0) (hb : A.turns + 1 ≤ 1125899906842624) : Ok (setS A n i) := by
  obtain ⟨h1, h2, h3⟩ := set0 hE
  rw [setS, if_pos hE]
  have hk := ok_stop h n
  refine ⟨?_, ?_, fun t ht => ?_, fun t ht => ?_, fun t ht => ?_, ?_, ?_⟩
  · refine List.pairwise_append.2 ⟨hk.srt.filter _, List.pairwise_cons.2 ⟨fun y hy => ?_, hk.srt.filter _⟩, fun x hx y hy => ?_⟩
    · have := (List.mem_filter.1 hy).2
      simp only [decide_eq_true_eq] at this
      exact .inl this
    · have hx1 := (List.mem_filter.1 hx).2
      simp only [decide_eq_true_eq] at hx1
      rcases List.mem_cons.1 hy with rfl | hy
      · have h4 := h.trn x (mem_rm.1 (List.mem_filter.1 hx).1).1
        unfold lt3
        show _ ∨ _ ∧ x.turn < A.turns + 1
        show x.due < A.now + i ∨ x.due = A.now + i ∧ x.turn < A.turns + 1
        omega
      · have hy1 := (List.mem_filter.1 hy).2
        simp only [decide_eq_true_eq] at hy1
        exact .inl (by omega)
  · refine (List.Perm.pairwise_iff (fun {a b} hab => fun e => hab e.symm) (perm_ins _ _)).2 ?_
    refine List.pairwise_append.2 ⟨hk.nod, List.pairwise_singleton _ _, fun x hx y hy => ?_⟩
    rw [List.mem_singleton.1 hy]
    exact (mem_rm.1 hx).2
  · rcases mem_ins.1 ht with rfl | ht
    · show 1 ≤ A.turns + 1 ∧ A.turns + 1 ≤ A.turns + 1
      have := h.num; omega
    · have := h.trn t (mem_rm.1 ht).1
      show 1 ≤ t.turn ∧ t.turn ≤ A.turns + 1
      omega
  · rcases mem_ins.1 ht with rfl | ht
    · show A.now ≤ A.now + i ∧ A.now + i ≤ A.now + 2147483647
      omega
    · exact h.fut t (mem_rm.1 ht).1
  · rcases mem_ins.1 ht with rfl | ht
    · exact h1
    · exact h.siz t (mem_rm.1 ht).1
  · rw [(perm_ins _ _).length_eq, List.length_append, List.length_singleton]
    have hl := h.len
    rcases h3 with h3 | h3
    · have := rm_length h3; omega
    · have : (rm A.s n).length ≤ A.s.length := List.length_filter_le _ _
      omega
  · have := h.num
    refine ⟨this.1, ?_, hb⟩
    show 0 ≤ A.turns + 1
    omega
theorem ok_tick {A : CkS} (h : Ok A) (hb : A.now + 1 ≤ 1125899906842624) : Ok (tickS A) := by
  refine ⟨h.srt.filter _, h.nod.filter _, fun t ht => h.trn t (List.mem_filter.1 ht).1, fun t ht => ?_, fun t ht => h.siz t (List.mem_filter.1 ht).1, Nat.le_trans (List.length_filter_le _ _) h.len, ?_⟩
  · have h1 := h.fut t (List.mem_filter.1 ht).1
    have h2 := (List.mem_filter.1 ht).2
    simp only [decide_eq_true_eq] at h2
    show A.now + 1 ≤ t.due ∧ t.due ≤ A.now + 1 + 2147483647
    omega
  · have := h.num
    exact ⟨⟨by show 0 ≤ A.now + 1; omega, hb⟩, this.2⟩
theorem fut_start : Fut start := by intro t ht; simp [start] at ht
theorem fut_stop {A : CkS} (h : Fut A) (n : ByteArray) : Fut (stopS A n) := fun t ht => h t (mem_rm.1 ht).1
theorem fut_set {A : CkS} (h : Fut A) (n : ByteArray) (i : Int) : Fut (setS A n i) := by
  rw [setS]
  split
  · rename_i hE
    have h2 := (set0 hE).2.1
    intro t ht
    rcases mem_ins.1 ht with rfl | ht
    · show A.now < A.now + i; omega
    · exact h t (mem_rm.1 ht).1
  · exact h
theorem fut_tick (A : CkS) : Fut (tickS A) := by
  intro t ht
  have h2 := (List.mem_filter.1 ht).2
  exact (by simpa using h2 : A.now + 1 < t.due)

/-- The map of a queue's timers. -/
def ptr (t : Tm) : Value := .pointer (some ⟨t.tb, 0, none⟩)
def fm (q : List Tm) : Lit → Option Value
  | .string k => (q.find? (fun t => t.nm.data.toList == k)).map ptr
  | _ => none
def nk (n : ByteArray) : Lit := .string n.data.toList
def Nod (q : List Tm) : Prop := q.Pairwise (fun a b => a.nm ≠ b.nm)
theorem nm_inj {a b : ByteArray} : a.data.toList = b.data.toList ↔ a = b := ⟨WideShapes.bytes_inj, fun h => by rw [h]⟩
theorem nod_eq {q : List Tm} (h : Nod q) {t u : Tm} (ht : t ∈ q) (hu : u ∈ q) (e : t.nm = u.nm) : t = u := by
  induction q with
  | nil => simp at ht
  | cons x q ih =>
    have hx := List.pairwise_cons.1 h
    rcases List.mem_cons.1 ht with e1 | ht1
    · rcases List.mem_cons.1 hu with e2 | hu1
      · rw [e1, e2]
      · rw [e1] at e
        exact absurd e (hx.1 u hu1)
    · rcases List.mem_cons.1 hu with e2 | hu1
      · rw [e2] at e
        exact absurd e.symm (hx.1 t ht1)
      · exact ih hx.2 ht1 hu1
theorem fm_some {q : List Tm} (h : Nod q) {t : Tm} (ht : t ∈ q) : fm q (nk t.nm) = some (ptr t) := by
  show (q.find? (fun u => u.nm.data.toList == t.nm.data.toList)).map ptr = _
  cases hf : q.find? (fun u => u.nm.data.toList == t.nm.data.toList) with
  | none =>
    rw [List.find?_eq_none] at hf
    have := hf t ht
    simp at this
  | some u =>
    have h1 := List.mem_of_find?_eq_some hf
    have h2 := List.find?_some hf
    simp only [beq_iff_eq] at h2
    rw [nod_eq h h1 ht (nm_inj.1 h2)]; rfl
theorem fm_none {q : List Tm} {k : List UInt8} (h : ∀ t ∈ q, t.nm.data.toList ≠ k) : fm q (.string k) = none := by
  show (q.find? (fun u => u.nm.data.toList == k)).map ptr = none
  have hf : q.find? (fun u => u.nm.data.toList == k) = none := by
    rw [List.find?_eq_none]
    intro t ht
    simpa using h t ht
  rw [hf]; rfl
theorem fm_eq {q q' : List Tm} (h : Nod q) (h' : Nod q') (hm : ∀ t, t ∈ q ↔ t ∈ q') : fm q = fm q' := by
  funext y
  cases y with
  | string k =>
    by_cases he : ∃ t ∈ q, t.nm.data.toList = k
    · obtain ⟨t, ht, rfl⟩ := he
      exact (fm_some h ht).trans (fm_some h' ((hm t).1 ht)).symm
    · rw [fm_none (fun t ht e => he ⟨t, ht, e⟩), fm_none (fun t ht e => he ⟨t, (hm t).2 ht, e⟩)]
  | _ => rfl
def dele (f : Lit → Option Value) (x y : Lit) : Option Value := if y.sameKey x = true then none else f y
theorem same_str (a b : List UInt8) : (Lit.string a).sameKey (.string b) = decide (a = b) := by by_cases h : a = b <;> simp [Lit.sameKey, h]
theorem fm_add {q : List Tm} (h : Nod q) {t : Tm} (hn : ∀ u ∈ q, u.nm ≠ t.nm) : upd (fm q) (nk t.nm) (ptr t) = fm (q ++ [t]) := by
  have hN : Nod (q ++ [t]) := List.pairwise_append.2 ⟨h, List.pairwise_singleton _ _, fun u hu v hv => by rw [List.mem_singleton.1 hv]; exact hn u hu⟩
  funext y
  cases y with
  | string k =>
    by_cases e : k = t.nm.data.toList
    · subst e
      rw [show upd (fm q) (nk t.nm) (ptr t) (.string t.nm.data.toList) = some (ptr t) by simp [upd, nk, same_str]]
      exact (fm_some hN (by simp)).symm
    · rw [show upd (fm q) (nk t.nm) (ptr t) (.string k) = fm q (.string k) by simp [upd, nk, same_str, e]]
      by_cases he : ∃ u ∈ q, u.nm.data.toList = k
      · obtain ⟨u, hu, rfl⟩ := he
        exact (fm_some h hu).trans (fm_some hN (by simp [hu])).symm
      · rw [fm_none (fun u hu e => he ⟨u, hu, e⟩), fm_none (fun u hu e2 => ?_)]
        rcases List.mem_append.1 hu with hu | hu
        · exact he ⟨u, hu, e2⟩
        · rw [List.mem_singleton.1 hu] at e2; exact e e2.symm
  | int a b => simp [upd, nk, Lit.sameKey, fm]
  | _ => simp [upd, nk, Lit.sameKey, fm]
theorem fm_del {q q' : List Tm} (h : Nod q) (h' : Nod q') (n : ByteArray) (hm : ∀ t, t ∈ q' ↔ t ∈ q ∧ t.nm ≠ n) : dele (fm q) (nk n) = fm q' := by
  funext y
  cases y with
  | string k =>
    by_cases e : k = n.data.toList
    · subst e
      rw [show dele (fm q) (nk n) (.string n.data.toList) = none by simp [dele, nk, same_str]]
      rw [fm_none (fun u hu e2 => ((hm u).1 hu).2 (nm_inj.1 e2))]
    · rw [show dele (fm q) (nk n) (.string k) = fm q (.string k) by simp [dele, nk, same_str, e]]
      by_cases he : ∃ u ∈ q, u.nm.data.toList = k
      · obtain ⟨u, hu, rfl⟩ := he
        exact (fm_some h hu).trans (fm_some h' ((hm u).2 ⟨hu, fun e2 => e (by rw [e2])⟩)).symm
      · rw [fm_none (fun u hu e => he ⟨u, hu, e⟩), fm_none (fun u hu e2 => he ⟨u, ((hm u).1 hu).1, e2⟩)]
  | int a b => simp [dele, nk, Lit.sameKey, fm]
  | _ => simp [dele, nk, Lit.sameKey, fm]
theorem nod_t3 {q : List Tm} : Nod q ↔ (q.map t3).Pairwise (fun a b => a.nm ≠ b.nm) := by
  rw [List.pairwise_map]; rfl
theorem nod_perm {q q' : List Tm} (hp : q.Perm q') : Nod q ↔ Nod q' := List.Perm.pairwise_iff (fun {a b} hab => fun e => hab e.symm) hp
/-- What is left when one is taken out. -/
theorem erase_mem {q : List Tm} (h : Nod q) {i : Nat} (hi : i < q.length) (t : Tm) : t ∈ q.eraseIdx i ↔ t ∈ q ∧ t.nm ≠ q[i].nm := by
  have hp := erase_perm q i hi
  have hN := (nod_perm hp).1 h
  have hc := List.pairwise_cons.1 hN
  constructor
  · intro ht
    exact ⟨hp.mem_iff.2 (List.mem_cons_of_mem _ ht), fun e => hc.1 t ht e.symm⟩
  · rintro ⟨ht, hne⟩
    rcases List.mem_cons.1 (hp.mem_iff.1 ht) with rfl | ht
    · exact absurd rfl hne
    · exact ht
theorem erase_rm {q : List Tm} {s : List T3} (h : Nod q) (hs : (q.map t3).Perm s) {i : Nat} (hi : i < q.length) : ((q.eraseIdx i).map t3).Perm (rm s q[i].nm) := by
  have hp := (erase_perm q i hi).map t3
  have h1 : (t3 q[i] :: (q.eraseIdx i).map t3).Perm s := hp.symm.trans hs
  have h2 := h1.filter (fun t => decide (t.nm ≠ q[i].nm))
  have e : (t3 q[i] :: (q.eraseIdx i).map t3).filter (fun t => decide (t.nm ≠ q[i].nm)) = (q.eraseIdx i).map t3 := by
    rw [List.filter_cons_of_neg (by simp [t3])]
    refine List.filter_eq_self.2 (fun t ht => ?_)
    obtain ⟨u, hu, rfl⟩ := List.mem_map.1 ht
    exact decide_eq_true (((erase_mem h hi u).1 hu).2)
  rw [e] at h2
  exact h2
end Go.Proofs.Ytejjnhgiijhglaa.clkp
