/-
  The log and the document's log: what makes them alike (no program in sight).
-/
import Derived.Test.YtpnkohjppbgiaaaSlotRef
namespace Go.Proofs.Ytpnkohjppbgiaaa.slotplain
open Go.Proofs.Ytpnkohjppbgiaaa.logs Go.Proofs.Ytpnkohjppbgiaaa.slotref
set_option linter.unusedVariables false
set_option linter.unusedSimpArgs false
set_option maxHeartbeats 400000

abbrev Cs := List (ByteArray × Bool)
theorem mem_allF (f : Int) (cs : Cs) (i : Int) (v : ByteArray) : (i, v) ∈ allF f cs ↔ ∃ k, ∃ hk : k < cs.length, i = f + k ∧ cs[k] = (v, true) := by
  induction cs generalizing f with
  | nil => simp [allF]
  | cons c cs ih =>
    have key : (i, v) ∈ allF (f + 1) cs ↔ ∃ k, ∃ hk : k < cs.length, i = f + (k + 1 : Nat) ∧ cs[k] = (v, true) := by
      rw [ih (f + 1)]
      constructor
      · rintro ⟨k, hk, h1, h2⟩; exact ⟨k, hk, by omega, h2⟩
      · rintro ⟨k, hk, h1, h2⟩; exact ⟨k, hk, by omega, h2⟩
    obtain ⟨x, y⟩ := c
    simp only [allF]
    cases y with
    | true =>
      simp only [if_true, List.mem_cons, key]
      constructor
      · rintro (h | ⟨k, hk, h1, h2⟩)
        · simp only [Prod.mk.injEq] at h
          exact ⟨0, by simp, by omega, by simp [h.2]⟩
        · exact ⟨k + 1, by simpa using hk, h1, by simpa using h2⟩
      · rintro ⟨k, hk, h1, h2⟩
        cases k with
        | zero => left; simp at h2; simp only [Prod.mk.injEq]; exact ⟨by omega, h2.symm⟩
        | succ k => right; exact ⟨k, by simpa using hk, h1, by simpa using h2⟩
    | false =>
      simp only [Bool.false_eq_true, if_false, key]
      constructor
      · rintro ⟨k, hk, h1, h2⟩
        exact ⟨k + 1, by simpa using hk, h1, by simpa using h2⟩
      · rintro ⟨k, hk, h1, h2⟩
        cases k with
        | zero => simp at h2
        | succ k => exact ⟨k, by simpa using hk, h1, by simpa using h2⟩

structure Rel (f m : Int) (cs : Cs) (L : HL) : Prop where
  perm : L.Perm (allF f cs)
  zero : ∀ k (hk : k < cs.length), (cs[k]).2 = false → (cs[k]).1 = ByteArray.mk #[]
  last : ∀ (h : 0 < cs.length), (cs[cs.length - 1]).2 = true

theorem rel_start (f m : Int) : Rel f m [] [] := ⟨List.Perm.refl _, fun k hk => absurd hk (by simp), fun h => absurd h (by simp)⟩

theorem get_rel {f m : Int} {cs : Cs} {L : HL} (h : Rel f m cs L) (i : Int) : getL L i = logs.look f cs i := by
  by_cases hx : ∃ k, ∃ hk : k < cs.length, i = f + k ∧ (cs[k]).2 = true
  · obtain ⟨k, hk, hi, hc⟩ := hx
    have hm : (i, (cs[k]).1) ∈ L := h.perm.mem_iff.2 ((mem_allF f cs i _).2 ⟨k, hk, hi, by rw [← hc]⟩)
    have hl : logs.look f cs i = ((cs[k]).1, true) := by
      unfold logs.look
      rw [if_neg (by omega), show (i - f).toNat = k by omega, List.getElem?_eq_getElem hk, ← hc]; rfl
    rw [hl]
    cases hf : L.find? (fun x => x.1 == i) with
    | none => rw [List.find?_eq_none] at hf; exact absurd (hf _ hm) (by simp)
    | some x =>
      have h1 := List.mem_of_find?_eq_some hf
      have h2 : x.1 = i := by simpa using List.find?_some hf
      obtain ⟨x1, x2⟩ := x
      obtain ⟨k', hk', e1, e2⟩ := (mem_allF f cs x1 x2).1 (h.perm.mem_iff.1 h1)
      dsimp only at h2
      obtain rfl : k' = k := by omega
      rw [getL, hf]
      simp [e2]
  · have hn : ∀ j (hj : j < L.length), (L[j]).1 ≠ i := by
      intro j hj e
      obtain ⟨k, hk, e1, e2⟩ := (mem_allF f cs (L[j]).1 (L[j]).2).1 (h.perm.mem_iff.1 (List.getElem_mem hj))
      exact hx ⟨k, hk, by omega, by rw [e2]⟩
    rw [getL_none L i hn]
    unfold logs.look
    split
    · rfl
    · rename_i hlt
      by_cases hk : (i - f).toNat < cs.length
      · rw [List.getElem?_eq_getElem hk]
        have hc : (cs[(i - f).toNat]).2 = false := by
          cases hc : (cs[(i - f).toNat]).2 with
          | false => rfl
          | true => exact absurd ⟨(i - f).toNat, hk, by omega, hc⟩ hx
        have := h.zero _ hk hc
        simp only [Option.getD_some]
        exact Prod.ext this.symm hc.symm
      · rw [List.getElem?_eq_none (by omega)]; rfl

theorem allF_none (i : Int) (n : Nat) : allF i (List.replicate n (ByteArray.mk #[], false)) = [] := by
  induction n generalizing i with
  | zero => rfl
  | succ n ih => simp [List.replicate_succ, allF, ih]
theorem allF_pad (i : Int) (cs : Cs) (n : Nat) : allF i (padL cs n) = allF i cs := by rw [padL, allF_append, allF_none, List.append_nil]
theorem allF_parts (f : Int) (ds : Cs) (k : Nat) (hk : k < ds.length) : allF f ds = allF f (ds.take k) ++ ((if (ds[k]).2 then [(f + k, (ds[k]).1)] else []) ++ allF (f + k + 1) (ds.drop (k + 1))) := by
  conv => lhs; rw [← List.take_append_drop k ds, List.drop_eq_getElem_cons hk, allF_append]
  rw [List.length_take, Nat.min_eq_left (by omega)]
  congr 1
  simp only [allF]
  split <;> simp
theorem allF_setk (f : Int) (ds : Cs) (k : Nat) (hk : k < ds.length) (v : ByteArray) : allF f (ds.set k (v, true)) = allF f (ds.take k) ++ ((f + k, v) :: allF (f + k + 1) (ds.drop (k + 1))) := by
  rw [allF_parts f (ds.set k (v, true)) k (by simpa using hk)]
  simp only [List.getElem_set_self, if_true]
  rw [List.take_set_of_le (by omega), List.drop_set_of_lt (by omega)]
  rfl

theorem put_rel {f m : Int} {cs : Cs} {L : HL} (h : Rel f m cs L) (hF : Fit f m cs) (i : Int) (v : ByteArray) (h1 : f ≤ i) (h2 : i - f < m) : Rel f m (putC f m cs i v) (putL L i v) := by
  obtain ⟨k, hk⟩ : ∃ k : Nat, i = f + k := ⟨(i - f).toNat, by omega⟩
  have e : putC f m cs i v = (padL cs (k + 1)).set k (v, true) := by rw [putC, if_neg (by omega), show (i - f).toNat = k by omega]
  obtain ⟨ds, hds⟩ : ∃ ds, ds = padL cs (k + 1) := ⟨_, rfl⟩
  have hkl : k < ds.length := by rw [hds, padL_len]; omega
  have hz : ∀ j (hj : j < ds.length), (ds[j]).2 = false → (ds[j]).1 = ByteArray.mk #[] := by
    intro j hj hf
    subst hds
    simp only [padL] at hf ⊢
    by_cases hjl : j < cs.length
    · rw [List.getElem_append_left hjl] at hf ⊢; exact h.zero j hjl hf
    · rw [List.getElem_append_right (by omega)]; simp
  have hp : L.Perm (allF f ds) := by rw [hds, allF_pad]; exact h.perm
  rw [e, ← hds]
  refine ⟨?_, ?_, ?_⟩
  · rw [allF_setk f ds k hkl v]
    rw [allF_parts f ds k hkl] at hp
    cases hc : (ds[k]).2 with
    | true =>
      rw [hc, if_pos rfl] at hp
      have hm : (f + (k : Int), (ds[k]).1) ∈ L := hp.mem_iff.2 (by simp)
      have hex : ∃ j, ∃ hj : j < L.length, (L[j]).1 = i ∧ ∀ n (hn : n < L.length), n < j → (L[n]).1 ≠ i := by
        have hidx : L.findIdx (fun x => x.1 == i) < L.length := List.findIdx_lt_length_of_exists ⟨_, hm, by simp [hk]⟩
        refine ⟨_, hidx, by simpa using List.findIdx_getElem (w := hidx), fun n hn hnj => ?_⟩
        have := List.not_of_lt_findIdx hnj
        simpa using this
      obtain ⟨j, hj, hji, hjf⟩ := hex
      have hLj : L[j] = (i, (ds[k]).1) := by
        have hmem := hp.mem_iff.1 (List.getElem_mem hj)
        have hmem' : L[j] ∈ allF f ds := by rw [allF_parts f ds k hkl, hc, if_pos rfl]; exact hmem
        obtain ⟨k', hk', e1, e2⟩ := (mem_allF f ds (L[j]).1 (L[j]).2).1 hmem'
        obtain rfl : k' = k := by omega
        exact Prod.ext hji (by rw [e2])
      rw [putL_at L j hj i v hjf hji]
      have hsplit : L = L.take j ++ L[j] :: L.drop (j + 1) := by rw [← List.drop_eq_getElem_cons hj, List.take_append_drop]
      have hset : L.set j (i, v) = L.take j ++ (i, v) :: L.drop (j + 1) := by
        rw [List.set_eq_take_append_cons_drop, if_pos hj]
      rw [hset, ← hk]
      rw [hsplit, hLj, ← hk] at hp
      have hp2 : (L.take j ++ L.drop (j + 1)).Perm (allF f (ds.take k) ++ allF (i + 1) (ds.drop (k + 1))) := by
        have : ((i, (ds[k]).1) :: (L.take j ++ L.drop (j + 1))).Perm ((i, (ds[k]).1) :: (allF f (ds.take k) ++ allF (i + 1) (ds.drop (k + 1)))) :=
          (List.perm_middle.symm.trans hp).trans (by simp)
        exact this.cons_inv
      exact List.perm_middle.trans ((hp2.cons _).trans List.perm_middle.symm)
    | false =>
      rw [hc] at hp
      simp only [Bool.false_eq_true, if_false, List.nil_append] at hp
      have hn : ∀ j (hj : j < L.length), (L[j]).1 ≠ i := by
        intro j hj e
        have hmem' : L[j] ∈ allF f ds := by
          rw [allF_parts f ds k hkl, hc]
          simpa using hp.mem_iff.1 (List.getElem_mem hj)
        obtain ⟨k', hk', e1, e2⟩ := (mem_allF f ds (L[j]).1 (L[j]).2).1 hmem'
        obtain rfl : k' = k := by omega
        rw [e2] at hc; simp at hc
      rw [putL_none L i v hn, ← hk]
      rw [← hk] at hp
      exact (List.perm_append_singleton _ _).trans ((hp.cons _).trans List.perm_middle.symm)
  · intro j hj hf
    have hj' : j < ds.length := by simpa using hj
    by_cases hjk : j = k
    · subst hjk; simp at hf
    · rw [List.getElem_set_ne (by omega)] at hf ⊢
      exact hz j hj' hf
  · intro hpos
    simp only [List.length_set] at hpos ⊢
    have hlen : ds.length = max cs.length (k + 1) := by rw [hds, padL_len]
    by_cases hkl2 : ds.length - 1 = k
    · simp [hkl2]
    · rw [List.getElem_set_ne (by omega)]
      have hcl : k + 1 ≤ cs.length := by omega
      have hdc : ds = cs := by rw [hds, padL, show k + 1 - cs.length = 0 by omega]; simp
      subst hdc
      exact h.last (by omega)

theorem allF_cut (f : Int) (cs : Cs) (i : Int) (hi : f < i) : (allF f cs).filter (fun x => decide (i ≤ x.1)) = allF i (cs.drop (i - f).toNat) := by
  have h1 : (allF f (cs.take (i - f).toNat)).filter (fun x => decide (i ≤ x.1)) = [] := by
    rw [List.filter_eq_nil_iff]
    rintro ⟨x, y⟩ hx
    obtain ⟨k, hk, e1, _⟩ := (mem_allF _ _ x y).1 hx
    rw [List.length_take] at hk
    simp; omega
  have h2 : ∀ j, i ≤ j → ∀ l : Cs, (allF j l).filter (fun x => decide (i ≤ x.1)) = allF j l := by
    intro j hj l
    rw [List.filter_eq_self]
    rintro ⟨x, y⟩ hx
    obtain ⟨k, hk, e1, _⟩ := (mem_allF _ _ x y).1 hx
    simp; omega
  by_cases hl : (i - f).toNat ≤ cs.length
  · conv => lhs; rw [← List.take_append_drop (i - f).toNat cs, allF_append, List.filter_append, h1]
    rw [List.length_take, Nat.min_eq_left hl, show f + (((i - f).toNat : Nat) : Int) = i by omega, h2 i (Int.le_refl _)]
    rfl
  · rw [List.drop_eq_nil_of_le (by omega)]
    rw [List.take_of_length_le (by omega)] at h1
    rw [h1]; rfl
theorem cut_rel {f m : Int} {cs : Cs} {L : HL} (h : Rel f m cs L) (i : Int) : Rel (cutF f i) m (cutC f cs i) (if cutI f i then L else cutL L i) := by
  by_cases hc : cutI f i
  · rw [cutF, cutC, if_pos hc, if_pos hc, if_pos hc]; exact h
  · rw [cutF, cutC, if_neg hc, if_neg hc, if_neg hc]
    have hi : f < i := by unfold cutI at hc; omega
    refine ⟨?_, ?_, ?_⟩
    · rw [← allF_cut f cs i hi]; exact h.perm.filter _
    · intro k hk hf
      rw [List.getElem_drop] at hf ⊢
      exact h.zero _ _ hf
    · intro hpos
      rw [List.length_drop] at hpos
      rw [List.getElem_drop]
      have := h.last (by omega)
      simp only [List.length_drop]
      have e : (i - f).toNat + (cs.length - (i - f).toNat - 1) = cs.length - 1 := by omega
      simp only [e]
      exact this
theorem allF_gone (i : Int) (cs : Cs) : (allF i cs).length = gone cs := by
  induction cs generalizing i with
  | nil => rfl
  | cons c cs ih =>
    have := ih (i + 1)
    simp only [allF, gone] at this ⊢
    cases hc : c.2 <;> simp [hc, this]
theorem cut_count {f m : Int} {cs : Cs} {L : HL} (h : Rel f m cs L) (i : Int) : (if cutI f i then 0 else (L.length : Int) - (cutL L i).length) = cutE f cs i := by
  unfold cutE
  split
  · rfl
  · rename_i hc
    have hi : f < i := by unfold cutI at hc; omega
    have e1 := h.perm.length_eq
    have e2 : (cutL L i).length = (allF i (cs.drop (i - f).toNat)).length := by
      rw [← allF_cut f cs i hi]; exact (h.perm.filter _).length_eq
    rw [e1, e2, allF_gone, allF_gone]
    have : gone cs = gone (cs.take (i - f).toNat) + gone (cs.drop (i - f).toNat) := by
      conv => lhs; rw [← List.take_append_drop (i - f).toNat cs]
      simp only [gone, List.filter_append, List.length_append]
    omega

theorem topL_ge (F : Int) (L : HL) : F ≤ topL F L ∧ ∀ x ∈ L, x.1 + 1 ≤ topL F L := by
  unfold topL
  induction L generalizing F with
  | nil => simp
  | cons x L ih =>
    obtain ⟨h1, h2⟩ := ih (max F (x.1 + 1))
    simp only [List.foldl_cons, List.mem_cons]
    refine ⟨by omega, ?_⟩
    rintro y (rfl | hy)
    · omega
    · exact h2 y hy
theorem topL_le (F B : Int) (L : HL) (hF : F ≤ B) (h : ∀ x ∈ L, x.1 + 1 ≤ B) : topL F L ≤ B := by
  unfold topL
  induction L generalizing F with
  | nil => simpa using hF
  | cons x L ih =>
    simp only [List.foldl_cons]
    have := h x (by simp)
    exact ih _ (by omega) (fun y hy => h y (by simp [hy]))
theorem top_rel {f m : Int} {cs : Cs} {L : HL} (h : Rel f m cs L) : topL f L = f + cs.length := by
  refine Int.le_antisymm (topL_le f _ L (by omega) ?_) ?_
  · rintro ⟨x, y⟩ hx
    obtain ⟨k, hk, e1, _⟩ := (mem_allF f cs x y).1 (h.perm.mem_iff.1 hx)
    dsimp only; omega
  · obtain ⟨h1, h2⟩ := topL_ge f L
    by_cases hpos : 0 < cs.length
    · have hl := h.last hpos
      have hm : (f + ((cs.length - 1 : Nat) : Int), (cs[cs.length - 1]).1) ∈ L := h.perm.mem_iff.2 ((mem_allF f cs _ _).2 ⟨cs.length - 1, by omega, rfl, by rw [← hl]⟩)
      have := h2 _ hm
      dsimp only at this
      omega
    · omega
theorem look_at (f : Int) (cs : Cs) (k : Nat) (hk : k < cs.length) : logs.look f cs (f + k) = cs[k] := by
  unfold logs.look
  rw [if_neg (by omega), show (f + (k : Int) - f).toNat = k by omega, List.getElem?_eq_getElem hk]; rfl
theorem next_stop : ∀ (cs : Cs) (hk : nextN cs < cs.length), (cs[nextN cs]).2 = false := by
  intro cs
  induction cs with
  | nil => intro hk; simp at hk
  | cons x l ih =>
    intro hk
    obtain ⟨x1, y⟩ := x
    cases y with
    | false => simp [nextN, List.takeWhile]
    | true =>
      have e : nextN ((x1, true) :: l) = nextN l + 1 := by simp [nextN, List.takeWhile]
      simp only [e] at hk ⊢
      simpa using ih (by simpa using hk)
theorem next_rel {f m : Int} {cs : Cs} {L : HL} (h : Rel f m cs L) : (∀ j, j < nextN cs → (getL L (f + j)).2 = true) ∧ (getL L (f + nextN cs)).2 = false := by
  have hn := nextN_le cs
  constructor
  · intro j hj
    rw [get_rel h, look_at f cs j (by omega)]
    exact next_full cs j (by omega) hj
  · rw [get_rel h]
    by_cases hl : nextN cs < cs.length
    · rw [look_at f cs _ hl]; exact next_stop cs hl
    · unfold logs.look
      rw [if_neg (by omega), List.getElem?_eq_none (by omega)]; rfl
theorem all_rel {f m : Int} {cs : Cs} {L : HL} (h : Rel f m cs L) : allR f L cs.length = allF f cs := by
  have key : ∀ k, k ≤ cs.length → allR f L k = allF f (cs.take k) := by
    intro k
    induction k with
    | zero => intro _; rfl
    | succ k ih =>
      intro hk
      have e : getL L (f + k) = cs[k] := by rw [get_rel h, look_at f cs k (by omega)]
      rw [allR, ih (by omega), allF_snoc f cs k (by omega), e]
  rw [key _ (Nat.le_refl _), List.take_length]
theorem rfit {f m : Int} {cs : Cs} {L : HL} (h : Rel f m cs L) (hF : Fit f m cs) : RFit f m L := by
  have hl := hF.len
  have hm2 := hF.m2
  refine ⟨hF.f1, hF.f2, hF.m1, hF.m2, ?_, ?_⟩
  · rw [h.perm.length_eq]
    have := allF_len f cs
    omega
  · intro k hk
    obtain ⟨j, hj, e1, _⟩ := (mem_allF f cs (L[k]).1 (L[k]).2).1 (h.perm.mem_iff.1 (List.getElem_mem hk))
    omega
/-- The places that are not filled: none of them is there; they rise. -/
theorem mem_holesF (f : Int) (cs : Cs) (i : Int) (h : i ∈ holesF f cs) : ∃ k, ∃ hk : k < cs.length, i = f + k ∧ (cs[k]).2 = false := by
  induction cs generalizing f with
  | nil => simp [holesF] at h
  | cons c cs ih =>
    obtain ⟨x, y⟩ := c
    simp only [holesF] at h
    cases y with
    | true =>
      simp only [if_true] at h
      obtain ⟨k, hk, e1, e2⟩ := ih (f + 1) h
      exact ⟨k + 1, by simpa using hk, by omega, by simpa using e2⟩
    | false =>
      simp only [Bool.false_eq_true, if_false, List.mem_cons] at h
      rcases h with h | h
      · exact ⟨0, by simp, by omega, by simp⟩
      · obtain ⟨k, hk, e1, e2⟩ := ih (f + 1) h
        exact ⟨k + 1, by simpa using hk, by omega, by simpa using e2⟩
theorem holesF_rise (f : Int) (cs : Cs) : (holesF f cs).Pairwise (· < ·) := by
  induction cs generalizing f with
  | nil => simp [holesF]
  | cons c cs ih =>
    simp only [holesF]
    split
    · exact ih _
    · refine List.pairwise_cons.2 ⟨?_, ih _⟩
      intro j hj
      obtain ⟨k, hk, e1, _⟩ := mem_holesF _ _ _ hj
      omega
end Go.Proofs.Ytpnkohjppbgiaaa.slotplain
