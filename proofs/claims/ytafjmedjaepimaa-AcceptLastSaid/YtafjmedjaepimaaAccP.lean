/-
  AcceptLast's plain words: the last vote that was accepted for a slot; the row of those beside an acceptor.
-/
import Derived.Test.YtafjmedjaepimaaAccL
namespace Go.Proofs.Ytafjmedjaepimaa.accp
open Go.ChangeShapes Go.WideShapes Go.ChangeAt Go.RowKit Go.Joins
open Go.Proofs.Ytafjmedjaepimaa.kit Go.Proofs.Ytafjmedjaepimaa.mapkit Go.Proofs.Ytafjmedjaepimaa.byt Go.Proofs.Ytafjmedjaepimaa.own Go.Proofs.Ytafjmedjaepimaa.accd Go.Proofs.Ytafjmedjaepimaa.acca Go.Proofs.Ytafjmedjaepimaa.accb Go.Proofs.Ytafjmedjaepimaa.acck Go.Proofs.Ytafjmedjaepimaa.acce Go.Proofs.Ytafjmedjaepimaa.accf Go.Proofs.Ytafjmedjaepimaa.accg Go.Proofs.Ytafjmedjaepimaa.acch Go.Proofs.Ytafjmedjaepimaa.acci Go.Proofs.Ytafjmedjaepimaa.accj Go.Proofs.Ytafjmedjaepimaa.accr Go.Proofs.Ytafjmedjaepimaa.accl
set_option linter.unusedVariables false
set_option linter.unusedSimpArgs false
set_option maxHeartbeats 1000000
set_option maxRecDepth 100000

/-- Where the last one for a slot stands among the first n, or -1. -/
def atN (L : List V4) (s : Int) : Nat → Int
  | 0 => -1
  | n + 1 => if (L[n]?).any (fun v => v.s == s) then n else atN L s n
theorem atN_app (L : List V4) (v : V4) (s : Int) : ∀ n, n ≤ L.length → atN (L ++ [v]) s n = atN L s n
  | 0, _ => rfl
  | n + 1, h => by
    rw [atN, atN, List.getElem?_append_left (by omega), atN_app L v s n (by omega)]
theorem atN_snoc (L : List V4) (v : V4) (s : Int) : atN (L ++ [v]) s (L ++ [v]).length = if v.s = s then (L.length : Int) else atN L s L.length := by
  rw [List.length_append, List.length_singleton, atN, List.getElem?_append_right (Nat.le_refl _), Nat.sub_self, atN_app L v s _ (Nat.le_refl _)]
  by_cases h : v.s = s
  · simp [h]
  · simp [h]
theorem atN_step (L : List V4) (s : Int) (n : Nat) (hn : n < L.length) : atN L s (n + 1) = if L[n].s = s then (n : Int) else atN L s n := by
  rw [atN, List.getElem?_eq_getElem hn]
  by_cases h : L[n].s = s
  · simp [h]
  · simp [h]
/-- What the statement asks. -/
structure Held (A : AS) (L : List V4) : Prop where
  last : ∀ x ∈ A.vs, ∃ i : Nat, atN L x.s L.length = i ∧ L[i]? = some x
  all : ∀ y ∈ L, y.s < A.first ∨ ∃ x ∈ A.vs, x.s = y.s
theorem held_same {A B : AS} {L : List V4} (h : Held A L) (h1 : B.vs = A.vs) (h2 : B.first = A.first) : Held B L := ⟨by rw [h1]; exact h.last, by rw [h1, h2]; exact h.all⟩
theorem held_prep {A : AS} {L : List V4} (h : Held A L) (r n : Int) : Held (prepS A r n) L := by
  rw [prepS]; split
  · exact held_same h rfl rfl
  · exact h
theorem held_forget {A : AS} {L : List V4} (h : Held A L) (d : Int) : Held (forgetS A d) L := by
  rw [forgetS]; split
  · rename_i hf
    refine ⟨fun x hx => h.last x (mem_from4.1 hx).1, fun y hy => ?_⟩
    rcases h.all y hy with h1 | ⟨x, hx, hs⟩
    · exact .inl (by have := hf.1; show y.s < d; omega)
    · by_cases hd : y.s < d
      · exact .inl hd
      · exact .inr ⟨x, mem_from4.2 ⟨hx, by omega⟩, hs⟩
  · exact h
theorem held_acc {A : AS} {L : List V4} (h : Held A L) {v : V4} (hE : accE A.r A.n A.first v = 0) : Held (accS A v) (L ++ [v]) := by
  rw [accS, if_pos hE]
  refine ⟨fun x hx => ?_, fun y hy => ?_⟩
  · rcases mem_put4.1 hx with rfl | ⟨hx, hne⟩
    · exact ⟨L.length, by rw [atN_snoc, if_pos rfl], by simp⟩
    · obtain ⟨i, h1, h2⟩ := h.last x hx
      refine ⟨i, by rw [atN_snoc, if_neg (fun e => hne e.symm)]; exact h1, ?_⟩
      have hi : i < L.length := by
        by_cases hi : i < L.length
        · exact hi
        · rw [List.getElem?_eq_none (by omega)] at h2; simp at h2
      rw [List.getElem?_append_left hi]
      exact h2
  · rcases List.mem_append.1 hy with hy | hy
    · rcases h.all y hy with h1 | ⟨x, hx, hs⟩
      · exact .inl h1
      · by_cases hne : x.s = v.s
        · exact .inr ⟨v, mem_put4.2 (.inl rfl), by omega⟩
        · exact .inr ⟨x, mem_put4.2 (.inr ⟨hx, hne⟩), hs⟩
    · rw [List.mem_singleton.1 hy]
      exact .inr ⟨v, mem_put4.2 (.inl rfl), rfl⟩
theorem held_no {A : AS} {L : List V4} (h : Held A L) {v : V4} (hE : accE A.r A.n A.first v ≠ 0) : Held (accS A v) L := by
  rw [accS, if_neg hE]; exact h
/-- An acceptor, and what was accepted. -/
structure St where
  A : AS
  xs : List Vt
def stepL (S : St) (o : OpV) : St :=
  ⟨opS S.A o, if o.kind = 1 then S.xs else if o.kind = 2 then S.xs else if accE S.A.r S.A.n S.A.first (lv o.vt) = 0 then S.xs ++ [o.vt] else S.xs⟩
def stL (l : List OpV) : St := l.foldl stepL ⟨startS, []⟩
theorem stL_snoc (l : List OpV) (k : Nat) (hk : k < l.length) : stL (l.take (k + 1)) = stepL (stL (l.take k)) l[k] := by
  rw [List.take_succ_eq_append_getElem hk, stL, List.foldl_append]; rfl
theorem held_step {S : St} (h : Held S.A (S.xs.map lv)) (o : OpV) : Held (stepL S o).A ((stepL S o).xs.map lv) := by
  rw [stepL]
  by_cases h1 : o.kind = 1
  · simp only [if_pos h1]; rw [opS_1 _ _ h1]; exact held_prep h _ _
  · by_cases h2 : o.kind = 2
    · simp only [if_neg h1, if_pos h2]; rw [opS_2 _ _ h2]; exact held_forget h _
    · simp only [if_neg h1, if_neg h2]; rw [opS_3 _ _ h1 h2]
      by_cases hE : accE S.A.r S.A.n S.A.first (lv o.vt) = 0
      · rw [if_pos hE, List.map_append, List.map_singleton]; exact held_acc h hE
      · rw [if_neg hE]; exact held_no h hE
theorem held_st (l : List OpV) : Held (stL l).A ((stL l).xs.map lv) := by
  have : ∀ (l : List OpV) (S : St), Held S.A (S.xs.map lv) → Held (l.foldl stepL S).A ((l.foldl stepL S).xs.map lv) := by
    intro l
    induction l with
    | nil => exact fun S h => h
    | cons o l ih => exact fun S h => ih _ (held_step h o)
  exact this l _ ⟨by simp [startS], by simp⟩
theorem st_len (l : List OpV) : (stL l).xs.length ≤ l.length := by
  have : ∀ (l : List OpV) (S : St), (l.foldl stepL S).xs.length ≤ S.xs.length + l.length := by
    intro l
    induction l with
    | nil => exact fun S => by simp
    | cons o l ih =>
      intro S
      have h1 := ih (stepL S o)
      have h2 : (stepL S o).xs.length ≤ S.xs.length + 1 := by
        rw [stepL]; dsimp only; repeat' split
        all_goals simp
      simp only [List.foldl_cons, List.length_cons]
      omega
  have := this l ⟨startS, []⟩
  simpa [stL] using this

/-- The row of the votes that were accepted: a list of the walk's own; the values are the caller's. -/
structure Lst (w W : World) (v : Value) (xs : List Vt) : Prop where
  row : ∃ a c, v = .slice a xs.length c ∧ W.ownsRow w.heap.size 38 4 (.slice a xs.length c) xs.length (vcells xs)
  rd : ∀ x ∈ xs, Rd w x
theorem Lst.below {w W W' : World} {v : Value} {xs : List Vt} (h : Lst w W v xs) (hb : Below W.heap.size W W') : Lst w W' v xs := by
  obtain ⟨⟨a, c, h1, h2⟩, h3⟩ := h
  exact ⟨⟨a, c, h1, own_below h2 hb⟩, h3⟩
theorem Lst.rowv {w W : World} {v : Value} {xs : List Vt} (h : Lst w W v xs) (hb : Below w.heap.size w W) : RowV W v xs := by
  obtain ⟨⟨a, c, h1, h2⟩, h3⟩ := h
  exact ⟨⟨_, a, c, h1, h2⟩, fun x hx => (h3 x hx).below hb⟩
theorem Lst.keep {w W W' : World} {base b mb : Nat} {A : AS} {v : Value} {xs : List Vt} (h : Lst w W v xs) (hA : AccIs W base b mb A) (hk : Keep (fun k => k = b ∨ k = mb) W W') : Lst w W' v xs := by
  obtain ⟨vs, h1, h2⟩ := hA
  obtain ⟨⟨a, c, e, hr⟩, h3⟩ := h
  exact ⟨⟨a, c, e, h1.row hk hr (by decide)⟩, h3⟩
/-- A list of votes that grows is no part of an acceptor. -/
theorem acc_grown {W W1 : World} {base bs b mb : Nat} {A : AS} {a : Option Addr} {k c : Nat} {xs : List Value} (h : AccIs W base b mb A) (hr : W.ownsRow bs 38 4 (.slice a k c) k xs) (hg : W.grownBy W1 (Value.slice a k c).ownBlock) : AccIs W1 base b mb A := by
  obtain ⟨vs, h1, h2⟩ := h
  have hkeep : ∀ (g : Nat) (ob : Obj), W.heap[g]? = some ob → (∀ cur, ob ≠ .cells cur 38 (0, 0)) → W1.heap[g]? = W.heap[g]? := by
    intro g ob hgo hne
    refine hg.block g (Array.getElem?_eq_some_iff.1 hgo).1 (fun e => ?_)
    obtain ⟨cur, hcur⟩ := own_heap hr g (own_block hr g e.symm)
    rw [hgo] at hcur
    exact hne cur (Option.some.inj hcur)
  obtain ⟨es, cl, hm⟩ := h1.map.obj
  have hmb := hkeep mb _ hm (by simp)
  refine ⟨vs, ⟨(hkeep b _ h1.blk (by simp)).trans h1.blk, ?_, h1.lo, h1.ord, h1.one, h1.rng, h1.fit, fun v hv => ?_⟩, h2⟩
  · obtain ⟨D, ⟨es2, cl2, hD, hF⟩, hn⟩ := h1.map
    exact ⟨D, ⟨es2, cl2, hmb.trans hD, hF⟩, hn⟩
  · refine own_kept (h1.bodies v hv) (fun g hgp => ?_)
    obtain ⟨cur, hcur⟩ := own_heap (h1.bodies v hv) g hgp
    exact hkeep g _ hcur (by simp)
theorem Lst.push {w W W1 : World} {a : Option Addr} {c : Nat} {xs : List Vt} {v' : Value} {x : Vt} (h : Lst w W (.slice a xs.length c) xs) (hx : Rd w x) (ho : W1.ownsRow w.heap.size 38 4 v' (xs.length + 1) (vcells xs ++ x.cells)) : Lst w W1 v' (xs ++ [x]) := by
  obtain ⟨a', c', rfl⟩ := own_shape ho
  refine ⟨⟨a', c', by simp, ?_⟩, fun y hy => ?_⟩
  · rw [accc.vcells_append]
    have e : vcells [x] = x.cells := by simp [vcells]
    rw [e]
    simpa using ho
  · rcases List.mem_append.1 hy with hy | hy
    · exact h.rd y hy
    · rw [List.mem_singleton.1 hy]; exact hx
/-- All together. -/
structure Beh (w : World) (b mb : Nat) (S : St) (v : Value) (W : World) : Prop where
  acc : AccIs W w.heap.size b mb S.A
  below : Below w.heap.size w W
  lst : Lst w W v S.xs
theorem Beh.old {w : World} {b mb : Nat} {S : St} {v : Value} {W W' : World} (h : Beh w b mb S v W) (hb : Below W.heap.size W W') : Beh w b mb S v W' :=
  ⟨h.acc.below hb, below_step h.below hb, h.lst.below hb⟩
theorem Beh.keep {w : World} {b mb : Nat} {S : St} {v : Value} {W W' : World} {A : AS} (h : Beh w b mb S v W) (hbb : w.heap.size ≤ b) (hmb : w.heap.size ≤ mb) (h2 : AccIs W' w.heap.size b mb A) (hk : Keep (fun k => k = b ∨ k = mb) W W') : Beh w b mb ⟨A, S.xs⟩ v W' :=
  ⟨h2, h.below.trans (keep_below hk h.below.size hbb hmb), h.lst.keep h.acc hk⟩
theorem stepL_1 (S : St) (o : OpV) (h : o.kind = 1) : stepL S o = ⟨prepS S.A o.r o.n, S.xs⟩ := by rw [stepL, opS_1 _ _ h, if_pos h]
theorem stepL_2 (S : St) (o : OpV) (h : o.kind = 2) : stepL S o = ⟨forgetS S.A o.s, S.xs⟩ := by rw [stepL, opS_2 _ _ h, if_neg (by omega), if_pos h]
theorem stepL_3 (S : St) (o : OpV) (h : o.kind ≠ 1) (h2 : o.kind ≠ 2) (hE : accE S.A.r S.A.n S.A.first (lv o.vt) = 0) : stepL S o = ⟨accS S.A (lv o.vt), S.xs ++ [o.vt]⟩ := by rw [stepL, opS_3 _ _ h h2, if_neg h, if_neg h2, if_pos hE]
theorem stepL_4 (S : St) (o : OpV) (h : o.kind ≠ 1) (h2 : o.kind ≠ 2) (hE : accE S.A.r S.A.n S.A.first (lv o.vt) ≠ 0) : stepL S o = ⟨accS S.A (lv o.vt), S.xs⟩ := by rw [stepL, opS_3 _ _ h h2, if_neg h, if_neg h2, if_neg hE]
end Go.Proofs.Ytafjmedjaepimaa.accp
