/-
  ChooseKeeps as data: what a majority has voted for, with no greater ballot and no other value at its ballot, is what a new leader proposes by whatever promises of a majority.
-/
import Derived.Test.YtodoncmielfbeaaChT
namespace Go.Proofs.Ytodoncmielfbeaa.chkp
open Go.Proofs.Ytodoncmielfbeaa.chp Go.Proofs.Ytodoncmielfbeaa.chq Go.Proofs.Ytodoncmielfbeaa.chc Go.Proofs.Ytodoncmielfbeaa.cht
set_option linter.unusedVariables false
set_option linter.unusedSimpArgs false
set_option maxHeartbeats 1000000

def balE (x y : Int × V) : Bool := y.2.r == x.2.r && y.2.n == x.2.n
/-- How many have the ballot of x, and the value c. -/
def cntB (D : List (Int × V)) (x : Int × V) (c : List Nat) : Nat := (D.filter (fun y => balE x y && y.2.d == c)).length
/-- Is y above x, or of its ballot and unlike? -/
def abv1 (x y : Int × V) : Bool := lessB x.2.r x.2.n y.2.r y.2.n || (balE x y && !(y.2.d == x.2.d))
def lastP (nodes : Int) (D : List (Int × V)) (c : List Nat) (x : Int × V) : Bool := decide (nodes < 2 * (cntB D x c : Int)) && !(D.any (abv1 x))
theorem slot_once {vs : List V} (h : vs.Pairwise (fun a b => a.s < b.s)) (s : Int) : (vs.filter (fun v => decide (v.s = s))).length ≤ 1 := by
  have h2 : (vs.filter (fun v => decide (v.s = s))).Pairwise (fun a b => a.s < b.s) := h.filter _
  have h3 : ∀ v ∈ vs.filter (fun v => decide (v.s = s)), v.s = s := fun v hv => of_decide_eq_true (List.mem_filter.1 hv).2
  match hL : vs.filter (fun v => decide (v.s = s)) with
  | [] => rw [hL]; simp
  | [x] => rw [hL]; simp
  | x :: y :: t =>
    rw [hL] at h2 h3
    have h4 := (List.pairwise_cons.1 h2).1 y List.mem_cons_self
    have h5 := h3 x List.mem_cons_self
    have h6 := h3 y (List.mem_cons_of_mem _ List.mem_cons_self)
    omega
theorem right_vs {nodes : Int} {L : List Pr} (h : Right nodes L) {p : Pr} (hp : p ∈ L) : (∀ v ∈ p.vs, 1 ≤ v.s ∧ 1 ≤ v.r ∧ 1 ≤ v.n) ∧ p.vs.Pairwise (fun a b => a.s < b.s) := by
  have h1 := chp.lastOk_lt (chr.prOk_iff.1 (h.2.1 p hp)).2.2
  exact ⟨fun v hv => by have := h1.1 v hv; omega, h1.2⟩
theorem at_one {nodes : Int} {L : List Pr} (h : Right nodes L) {p : Pr} (hp : p ∈ L) (s : Int) : (at_ s p).length ≤ 1 := by
  unfold at_
  rw [List.length_map]
  exact slot_once (right_vs h hp).2 s
theorem mem_forS {nodes : Int} {L : List Pr} (h : Right nodes L) {s : Int} {x : Int × V} : x ∈ forS L s ↔ ∃ p ∈ L, x ∈ at_ s p := by
  unfold forS
  constructor
  · intro hx
    obtain ⟨n, -, hx⟩ := List.mem_flatMap.1 hx
    obtain ⟨p, hp, hx⟩ := List.mem_flatMap.1 hx
    exact ⟨p, (List.mem_filter.1 hp).1, hx⟩
  · rintro ⟨p, hp, hx⟩
    have hn := (chr.prOk_iff.1 (h.2.1 p hp)).1
    have h5 := h.1
    have hm : p.node ∈ ([1, 2, 3, 4, 5] : List Int) := by
      have : p.node = 1 ∨ p.node = 2 ∨ p.node = 3 ∨ p.node = 4 ∨ p.node = 5 := by omega
      simpa using this
    exact List.mem_flatMap.2 ⟨p.node, hm, List.mem_flatMap.2 ⟨p, List.mem_filter.2 ⟨hp, by simp⟩, hx⟩⟩
/-- As many promises hold a vote of some kind for a slot as there are such votes. -/
theorem count_le (P : Int × V → Bool) (s : Int) : ∀ L : List Pr, (∀ p ∈ L, (at_ s p).length ≤ 1) → ((L.flatMap (at_ s)).filter P).length ≤ (L.filter (fun p => (at_ s p).any P)).length
  | [], _ => by simp
  | p :: L, h => by
    have ih := count_le P s L (fun q hq => h q (List.mem_cons_of_mem _ hq))
    have h1 := h p List.mem_cons_self
    rw [List.flatMap_cons, List.filter_append, List.length_append, List.filter_cons]
    match hA : at_ s p, h1 with
    | [], _ => simp [hA]; exact ih
    | [x], _ =>
      cases hx : P x
      · simp [hA, hx]; exact ih
      · simp [hA, hx]; omega
    | x :: y :: t, h1 => simp at h1
theorem flat_perm {α β : Type} (f : α → List β) {l m : List α} (h : l.Perm m) : (l.flatMap f).Perm (m.flatMap f) := by
  induction h with
  | nil => exact List.Perm.refl _
  | cons x _ ih => rw [List.flatMap_cons, List.flatMap_cons]; exact ih.append_left _
  | swap x y l => simp only [List.flatMap_cons]; rw [← List.append_assoc, ← List.append_assoc]; exact List.perm_append_comm.append_right _
  | trans _ _ ih1 ih2 => exact ih1.trans ih2
/-- Two parts of a list that are more together than it meet. -/
theorem two_meet {α : Type} (P Q : α → Bool) : ∀ l : List α, l.length < (l.filter P).length + (l.filter Q).length → ∃ x ∈ l, P x = true ∧ Q x = true
  | [], h => by simp at h
  | x :: l, h => by
    by_cases hP : P x = true
    · by_cases hQ : Q x = true
      · exact ⟨x, List.mem_cons_self, hP, hQ⟩
      · rw [List.filter_cons_of_pos hP, List.filter_cons_of_neg hQ] at h
        simp only [List.length_cons] at h
        obtain ⟨y, hy, r⟩ := two_meet P Q l (by omega)
        exact ⟨y, List.mem_cons_of_mem _ hy, r⟩
    · rw [List.filter_cons_of_neg hP] at h
      have h2 : ((x :: l).filter Q).length ≤ (l.filter Q).length + 1 := by
        rw [List.filter_cons]; split <;> simp
      simp only [List.length_cons] at h
      obtain ⟨y, hy, r⟩ := two_meet P Q l (by omega)
      exact ⟨y, List.mem_cons_of_mem _ hy, r⟩
theorem right_len {nodes : Int} {L : List Pr} (h : Right nodes L) : (L.length : Int) ≤ nodes := by
  have h1 : (L.map Pr.node).Nodup := List.pairwise_map.2 h.2.2
  have h3 := cho.nod_len nodes.toNat _ h1 (fun x hx => by
    obtain ⟨q, hq, rfl⟩ := List.mem_map.1 hx
    have := (chr.prOk_iff.1 (h.2.1 q hq)).1
    have h5 := h.1
    omega)
  rw [List.length_map] at h3
  have h5 := h.1
  omega
/-- The fold of the document's search: where a vote's ballot is the greatest and all votes of it have one value, that is the value. -/
theorem fold_top (b1 b2 : Int) (c : List Nat) : ∀ (D : List (Int × V)) (st : Int × Int × List Nat),
    (∀ y ∈ D, lessB b1 b2 y.2.r y.2.n = false ∧ (y.2.r = b1 ∧ y.2.n = b2 → y.2.d = c)) → (st = (b1, b2, c) ∨ (lessB st.1 st.2.1 b1 b2 = true ∧ ∃ y ∈ D, y.2.r = b1 ∧ y.2.n = b2)) → D.foldl stp st = (b1, b2, c)
  | [], st, _, h => by
    rcases h with h | ⟨-, y, hy, -⟩
    · exact h
    · simp at hy
  | y :: D, st, h, hst => by
    rw [List.foldl_cons]
    have hy := h y List.mem_cons_self
    refine fold_top b1 b2 c D _ (fun z hz => h z (List.mem_cons_of_mem _ hz)) ?_
    show stp st y = _ ∨ _
    unfold stp
    rcases hst with rfl | ⟨h1, z, hz, h2⟩
    · left
      rw [if_neg (by rw [show lessB (b1, b2, c).1 (b1, b2, c).2.1 y.2.r y.2.n = lessB b1 b2 y.2.r y.2.n from rfl, hy.1]; simp)]
    · by_cases hlt : lessB st.1 st.2.1 y.2.r y.2.n = true
      · rw [if_pos hlt]
        by_cases he : y.2.r = b1 ∧ y.2.n = b2
        · left
          rw [he.1, he.2, hy.2 he]
        · right
          refine ⟨?_, ?_⟩
          · have h3 := hy.1
            simp only [lessB, Bool.or_eq_true, Bool.and_eq_true, decide_eq_true_eq, Bool.or_eq_false_iff, Bool.and_eq_false_iff, decide_eq_false_iff_not] at h3 ⊢
            omega
          · rcases List.mem_cons.1 hz with rfl | hz
            · exact absurd h2 he
            · exact ⟨z, hz, h2⟩
      · rw [if_neg hlt]
        right
        refine ⟨h1, ?_⟩
        rcases List.mem_cons.1 hz with rfl | hz
        · rw [h2.1, h2.2] at hlt
          exact absurd h1 hlt
        · exact ⟨z, hz, h2⟩
theorem keeps {nodes : Int} {L : List Pr} (hr : Right nodes L) (Q : Pr → Bool) (ho : openE nodes 1 (L.filter Q) = 0) {s : Int} {c : List Nat} (hl : (forS L s).any (lastP nodes (forS L s) c) = true) :
    1 ≤ s ∧ s ≤ (openN 1 (L.filter Q) : Int) ∧ valS (L.filter Q) s = c := by
  obtain ⟨x, hx, hlx⟩ := List.any_eq_true.1 hl
  unfold lastP at hlx
  rw [Bool.and_eq_true, decide_eq_true_eq, Bool.not_eq_true', List.any_eq_false] at hlx
  obtain ⟨hn, hab⟩ := hlx
  obtain ⟨hrM, -, -, hq⟩ := openE_right ho
  have hD : (forS L s).Perm (L.flatMap (at_ s)) := by
    obtain ⟨m, hm⟩ : ∃ m, m = L.mergeSort (fun a b => decide (a.node ≤ b.node)) := ⟨_, rfl⟩
    have hp : L.Perm m := by rw [hm]; exact (List.mergeSort_perm _ _).symm
    have hs : m.Pairwise (fun a b => a.node < b.node) := by
      have h1 : m.Pairwise (fun a b => decide (a.node ≤ b.node) = true) := by
        rw [hm]
        exact List.pairwise_mergeSort (fun a b c h1 h2 => by simp only [decide_eq_true_eq] at *; omega) (fun a b => by simp only [Bool.or_eq_true, decide_eq_true_eq]; omega) _
      have h2 : m.Pairwise (fun a b => a.node ≠ b.node) := (hp.pairwise_iff (fun {a b} h e => h e.symm)).1 hr.2.2
      exact (h1.and h2).imp fun ⟨h3, h4⟩ => by simp only [decide_eq_true_eq] at h3; omega
    rw [for_cut hp hs (fun p hpm => by
      have := (chr.prOk_iff.1 (hr.2.1 p (hp.mem_iff.2 hpm))).1
      have h5 := hr.1
      omega) s]
    exact flat_perm _ hp.symm
  have hc1 : cntB (forS L s) x c ≤ (L.filter (fun p => (at_ s p).any (fun y => balE x y && y.2.d == c))).length := by
    unfold cntB
    rw [(hD.filter _).length_eq]
    exact count_le _ s L (fun p hp => at_one hr hp s)
  have hlen := right_len hr
  obtain ⟨p, hp, hp1, hp2⟩ := two_meet (fun p => (at_ s p).any (fun y => balE x y && y.2.d == c)) Q L (by omega)
  obtain ⟨y, hy, hyb⟩ := List.any_eq_true.1 hp1
  rw [Bool.and_eq_true, beq_iff_eq] at hyb
  have hpM : p ∈ L.filter Q := List.mem_filter.2 ⟨hp, hp2⟩
  have hbal : y.2.r = x.2.r ∧ y.2.n = x.2.n := by simpa [balE] using hyb.1
  have hyx : y.2.d = x.2.d := by
    have h1 := hab y ((mem_forS hr).2 ⟨p, hp, hy⟩)
    unfold abv1 at h1
    rw [hyb.1] at h1
    simp only [Bool.true_and, Bool.not_eq_true, Bool.or_eq_false_iff, Bool.not_eq_false', beq_iff_eq] at h1
    exact h1.2
  have hval : valS (L.filter Q) s = c := by
    unfold valS
    have hxp : 1 ≤ x.2.r := by
      obtain ⟨q, hq, hxq⟩ := (mem_forS hr).1 hx
      obtain ⟨v, hv, rfl⟩ := List.mem_map.1 hxq
      exact ((right_vs hr hq).1 v (List.mem_filter.1 hv).1).2.1
    have hf := fold_top x.2.r x.2.n c (forS (L.filter Q) s) (0, 0, []) (fun z hz => by
      obtain ⟨q, hq, hzq⟩ := (mem_forS hrM).1 hz
      have h1 := hab z ((mem_forS hr).2 ⟨q, (List.mem_filter.1 hq).1, hzq⟩)
      unfold abv1 at h1
      simp only [Bool.not_eq_true, Bool.or_eq_false_iff] at h1
      refine ⟨h1.1, fun hzb => ?_⟩
      have h2 := h1.2
      have h3 : balE x z = true := by simp [balE, hzb]
      rw [h3] at h2
      simp only [Bool.true_and, Bool.not_eq_false', beq_iff_eq] at h2
      rw [h2, ← hyx, hyb.2]) (.inr ⟨by simp [lessB]; omega, y, (mem_forS hrM).2 ⟨p, hpM, hy⟩, hbal⟩)
    rw [hf]
  obtain ⟨v, hv, rfl⟩ := List.mem_map.1 hy
  obtain ⟨hv1, hv2⟩ := List.mem_filter.1 hv
  have hvs : v.s = s := of_decide_eq_true hv2
  have h1s := ((right_vs hr hp).1 v hv1).1
  have htop := (topL_spec (L.filter Q) 0).2.1 p hpM v hv1
  refine ⟨by omega, ?_, hval⟩
  unfold openN
  omega
end Go.Proofs.Ytodoncmielfbeaa.chkp
