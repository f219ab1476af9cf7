/-
  ChooseSafe as data: what members and draws may do, what is always so of it (with all votes that were ever cast), and why no two values are ever chosen for one slot.
-/
import Derived.Test.YtodoncmielfbeaaChKp
namespace Go.Proofs.Ytodoncmielfbeaa.chsf
open Go.Proofs.Ytodoncmielfbeaa.chp Go.Proofs.Ytodoncmielfbeaa.chq Go.Proofs.Ytodoncmielfbeaa.chc Go.Proofs.Ytodoncmielfbeaa.cht Go.Proofs.Ytodoncmielfbeaa.chkp
set_option linter.unusedVariables false
set_option linter.unusedSimpArgs false
set_option maxHeartbeats 1000000

/-- A draw: its ballot, who has promised, what it proposes, does it lead? -/
structure Tn where
  r : Int
  n : Int
  prs : List Pr
  pro : List (Int × List Nat)
  leads : Bool
/-- What a member has. -/
structure Mem where
  r : Int
  n : Int
  vs : List V
/-- The first entry of a slot. -/
def look (pro : List (Int × List Nat)) (s : Int) : Option (List Nat) := (pro.find? (fun e => decide (e.1 = s))).map Prod.snd
theorem look_append (p q : List (Int × List Nat)) (s : Int) : look (p ++ q) s = (look p s).or (look q s) := by
  unfold look
  rw [List.find?_append]
  cases p.find? (fun e => decide (e.1 = s)) <;> rfl
theorem look_kept {p : List (Int × List Nat)} {s : Int} {d : List Nat} (h : look p s = some d) (q : List (Int × List Nat)) : look (p ++ q) s = some d := by rw [look_append, h]; rfl
/-- A vote takes the place of its slot's. -/
def putV (vs : List V) (v : V) : List V := vs.filter (fun x => decide (x.s < v.s)) ++ v :: vs.filter (fun x => decide (v.s < x.s))
theorem putV_mem {vs : List V} {v x : V} : x ∈ putV vs v ↔ x = v ∨ (x ∈ vs ∧ x.s ≠ v.s) := by
  unfold putV
  rw [List.mem_append, List.mem_cons, List.mem_filter, List.mem_filter, decide_eq_true_eq, decide_eq_true_eq]
  constructor
  · rintro (h | h | h)
    · exact .inr ⟨h.1, by omega⟩
    · exact .inl h
    · exact .inr ⟨h.1, by omega⟩
  · rintro (h | ⟨h1, h2⟩)
    · exact .inr (.inl h)
    · rcases Int.lt_or_gt_of_ne h2 with h3 | h3
      · exact .inl ⟨h1, h3⟩
      · exact .inr (.inr ⟨h1, h3⟩)
theorem putV_ord {vs : List V} {v : V} (h : vs.Pairwise (fun a b => a.s < b.s)) : (putV vs v).Pairwise (fun a b => a.s < b.s) := by
  unfold putV
  rw [List.pairwise_append, List.pairwise_cons]
  refine ⟨h.filter _, ⟨fun x hx => of_decide_eq_true (List.mem_filter.1 hx).2, h.filter _⟩, fun x hx y hy => ?_⟩
  have h1 := of_decide_eq_true (List.mem_filter.1 hx).2
  rcases List.mem_cons.1 hy with rfl | hy
  · exact h1
  · have h2 := of_decide_eq_true (List.mem_filter.1 hy).2
    omega

/-- What is always so: H says which votes each node ever cast. -/
structure Inv (N : Int) (ms : List Mem) (ts : List Tn) (H : Int → V → Prop) : Prop where
  size : (ms.length : Int) = N ∧ 1 ≤ N ∧ N ≤ 5
  num : ∀ i (h : i < ts.length), ts[i].r = i + 1 ∧ 1 ≤ ts[i].n ∧ ts[i].n ≤ N
  calm : ∀ t ∈ ts, t.leads = false → t.pro = []
  led : ∀ t ∈ ts, t.leads = true → openE N 1 t.prs = 0 ∧ ∃ ex, t.pro = openL N 1 t.prs ++ ex
  node : ∀ t ∈ ts, ∀ p ∈ t.prs, 1 ≤ p.node ∧ p.node ≤ N
  prom : ∀ t ∈ ts, ∀ p ∈ t.prs, ∀ k (h : k < ms.length), p.node = k + 1 → t.r ≤ ms[k].r
  told : ∀ t ∈ ts, ∀ p ∈ t.prs, ∀ v ∈ p.vs, H p.node v ∧ v.r < t.r
  all : ∀ t ∈ ts, ∀ p ∈ t.prs, ∀ v, H p.node v → v.r < t.r → ∃ u ∈ p.vs, u.s = v.s ∧ v.r ≤ u.r
  ord : ∀ t ∈ ts, ∀ p ∈ t.prs, p.vs.Pairwise (fun a b => a.s < b.s)
  dist : ∀ t ∈ ts, t.prs.Pairwise (fun a b => a.node ≠ b.node)
  hist : ∀ x v, H x v → 1 ≤ x ∧ x ≤ N ∧ 1 ≤ v.s ∧ v.s ≤ 4 ∧ ∃ t ∈ ts, t.r = v.r ∧ t.n = v.n ∧ t.leads = true ∧ look t.pro v.s = some v.d
  now : ∀ v k (h : k < ms.length), H ((k : Int) + 1) v → ∃ u ∈ ms[k].vs, u.s = v.s ∧ v.r ≤ u.r
  mem : ∀ k (h : k < ms.length), ∀ v ∈ ms[k].vs, H ((k : Int) + 1) v ∧ v.r ≤ ms[k].r
  mord : ∀ k (h : k < ms.length), ms[k].vs.Pairwise (fun a b => a.s < b.s)

/-- A turn's round names it. -/
theorem Inv.one {N : Int} {ms : List Mem} {ts : List Tn} {H : Int → V → Prop} (h : Inv N ms ts H) {t u : Tn} (ht : t ∈ ts) (hu : u ∈ ts) (e : t.r = u.r) : t = u := by
  obtain ⟨i, hi, rfl⟩ := List.getElem_of_mem ht
  obtain ⟨j, hj, rfl⟩ := List.getElem_of_mem hu
  have h1 := (h.num i hi).1
  have h2 := (h.num j hj).1
  have : i = j := by omega
  subst this; rfl

/-- A majority has voted so at a round. -/
def Maj (N : Int) (H : Int → V → Prop) (r s : Int) (d : List Nat) : Prop := ∃ X : List Int, X.Nodup ∧ N < 2 * (X.length : Int) ∧ ∀ x ∈ X, 1 ≤ x ∧ x ≤ N ∧ ∃ v, H x v ∧ v.s = s ∧ v.r = r ∧ v.d = d
theorem Maj.mono {N : Int} {H H' : Int → V → Prop} {r s : Int} {d : List Nat} (h : Maj N H r s d) (hh : ∀ x v, H x v → H' x v) : Maj N H' r s d := by
  obtain ⟨X, h1, h2, h3⟩ := h
  refine ⟨X, h1, h2, fun x hx => ?_⟩
  obtain ⟨a, b, v, c, e⟩ := h3 x hx
  exact ⟨a, b, v, hh x v c, e⟩
theorem meet {N : Int} {X Y : List Int} (hN : 0 ≤ N) (hX : X.Nodup) (hY : Y.Nodup) (rX : ∀ x ∈ X, 1 ≤ x ∧ x ≤ N) (rY : ∀ x ∈ Y, 1 ≤ x ∧ x ≤ N) (lX : N < 2 * (X.length : Int)) (lY : N < 2 * (Y.length : Int)) : ∃ x ∈ X, x ∈ Y := by
  refine Classical.byContradiction fun hno => ?_
  have h1 : (X ++ Y).Nodup := List.nodup_append.2 ⟨hX, hY, fun a ha b hb e => hno ⟨a, ha, e ▸ hb⟩⟩
  have h2 := cho.nod_len N.toNat _ h1 (fun x hx => by
    rcases List.mem_append.1 hx with hx | hx
    · have := rX x hx; omega
    · have := rY x hx; omega)
  rw [List.length_append] at h2
  omega
/-- The value that a new leader takes over is one of those it was told for the slot, with the greatest ballot. -/
theorem fold_is (D : List (Int × V)) (h : ∀ c ∈ D, 1 ≤ c.2.r) (hne : D ≠ []) : ∃ y ∈ D, (D.foldl stp (0, 0, [])).2.2 = y.2.d ∧ ∀ c ∈ D, c.2.r ≤ y.2.r := by
  have h0 : ∀ c ∈ D, lessB 0 0 c.2.r c.2.n = true := fun c hc => by have := h c hc; simp [lessB]; omega
  have h1 := best_doc D none h0
  have hm : ∀ (D : List (Int × V)) (x : Int × V), ∃ y, D.foldl pick (some x) = some y ∧ (y = x ∨ y ∈ D) ∧ x.2.r ≤ y.2.r ∧ ∀ c ∈ D, c.2.r ≤ y.2.r := by
    intro D
    induction D with
    | nil => intro x; exact ⟨x, rfl, .inl rfl, Int.le_refl _, by simp⟩
    | cons c D ih =>
      intro x
      rw [List.foldl_cons, show pick (some x) c = if lessB x.2.r x.2.n c.2.r c.2.n then some c else some x from rfl]
      cases hl : lessB x.2.r x.2.n c.2.r c.2.n with
      | true =>
        obtain ⟨y, a, b, e, f⟩ := ih c
        have hxc : x.2.r ≤ c.2.r := by simp [lessB] at hl; omega
        refine ⟨y, a, ?_, by omega, fun z hz => ?_⟩
        · rcases b with rfl | b
          · exact .inr List.mem_cons_self
          · exact .inr (List.mem_cons_of_mem _ b)
        · rcases List.mem_cons.1 hz with rfl | hz
          · exact e
          · exact f z hz
      | false =>
        obtain ⟨y, a, b, e, f⟩ := ih x
        have hxc : c.2.r ≤ x.2.r := by simp [lessB] at hl; omega
        refine ⟨y, a, ?_, e, fun z hz => ?_⟩
        · rcases b with rfl | b
          · exact .inl rfl
          · exact .inr (List.mem_cons_of_mem _ b)
        · rcases List.mem_cons.1 hz with rfl | hz
          · omega
          · exact f z hz
  cases D with
  | nil => exact absurd rfl hne
  | cons c D =>
    obtain ⟨y, a, b, e, f⟩ := hm D c
    have a' : (c :: D).foldl pick none = some y := a
    rw [a'] at h1
    refine ⟨y, ?_, ?_, fun z hz => ?_⟩
    · rcases b with rfl | b
      · exact List.mem_cons_self
      · exact List.mem_cons_of_mem _ b
    · have h2 : (c :: D).foldl stp (0, 0, []) = outB (some y) := h1
      rw [h2]; rfl
    · rcases List.mem_cons.1 hz with rfl | hz
      · exact e
      · exact f z hz
theorem look_ents (l : List Pr) (n : Nat) (s : Int) (h : 1 ≤ s ∧ s ≤ n) : look (ents l 1 n) s = some (valS l s) := by
  induction n with
  | zero => omega
  | succ n ih =>
    rw [ents_snoc, look_append]
    by_cases e : s ≤ n
    · rw [ih ⟨h.1, e⟩]; rfl
    · have hs : s = 1 + (n : Int) := by omega
      have h0 : look (ents l 1 n) s = none := by
        unfold look
        rw [Option.map_eq_none_iff, List.find?_eq_none]
        intro x hx
        unfold ents at hx
        obtain ⟨i, hi, rfl⟩ := List.mem_map.1 hx
        have := List.mem_range.1 hi
        simp; omega
      rw [h0, hs]
      simp [look]
/-- A later leader proposes what a majority has voted for. -/
theorem later {N : Int} {ms : List Mem} {ts : List Tn} {H : Int → V → Prop} (h : Inv N ms ts H) {r s : Int} {d : List Nat} (hm : Maj N H r s d) : ∀ (n : Nat) (t : Tn) (d' : List Nat), t ∈ ts → t.leads = true → look t.pro s = some d' → r ≤ t.r → t.r ≤ (n : Int) → d = d' := by
  intro n
  induction n with
  | zero =>
    intro t d' ht _ _ _ hn
    obtain ⟨i, hi, rfl⟩ := List.getElem_of_mem ht
    have := (h.num i hi).1
    omega
  | succ n ih =>
    intro t d' ht hl hp hr hn
    obtain ⟨X, hX1, hX2, hX3⟩ := hm
    by_cases he : r = t.r
    · obtain ⟨x, hx⟩ : ∃ x, x ∈ X := by
        cases X with
        | nil => simp at hX2; have := h.size; omega
        | cons x X => exact ⟨x, List.mem_cons_self⟩
      obtain ⟨-, -, v, hv, rfl, rfl, rfl⟩ := hX3 x hx
      obtain ⟨-, -, -, -, u, hu, h1, h2, h3, h4⟩ := h.hist x v hv
      have := h.one hu ht (by omega)
      subst this
      rw [hp] at h4
      exact (Option.some.inj h4).symm
    · obtain ⟨ho, ex, hpro⟩ := h.led t ht hl
      obtain ⟨hR, -, -, hq⟩ := openE_right ho
      obtain ⟨x, hx, hxp⟩ := meet (N := N) (X := X) (Y := t.prs.map Pr.node) (by have := h.size; omega) hX1 (List.pairwise_map.2 (h.dist t ht)) (fun x hx => ⟨(hX3 x hx).1, (hX3 x hx).2.1⟩) (fun x hx => by
        obtain ⟨p, hp, rfl⟩ := List.mem_map.1 hx
        exact h.node t ht p hp) hX2 (by rw [List.length_map]; exact hq)
      obtain ⟨p, hp1, rfl⟩ := List.mem_map.1 hxp
      obtain ⟨-, -, v, hv, rfl, rfl, rfl⟩ := hX3 _ hx
      obtain ⟨u, hu, hus, hur⟩ := h.all t ht p hp1 v hv (by omega)
      have hD : (p.node, u) ∈ forS t.prs v.s := (mem_forS hR).2 ⟨p, hp1, List.mem_map.2 ⟨u, List.mem_filter.2 ⟨hu, by simp [hus]⟩, rfl⟩⟩
      have hof : ∀ c ∈ forS t.prs v.s, ∃ q ∈ t.prs, c.2 ∈ q.vs ∧ c.2.s = v.s := fun c hc => by
        obtain ⟨q, hq, hc⟩ := (mem_forS hR).1 hc
        obtain ⟨z, hz, rfl⟩ := List.mem_map.1 hc
        exact ⟨q, hq, (List.mem_filter.1 hz).1, of_decide_eq_true (List.mem_filter.1 hz).2⟩
      obtain ⟨y, hy, hyd, hyr⟩ := fold_is (forS t.prs v.s) (fun c hc => by
        obtain ⟨q, hq, hc1, -⟩ := hof c hc
        exact ((right_vs hR hq).1 _ hc1).2.1) (List.ne_nil_of_mem hD)
      obtain ⟨q, hq1, hyq, hys⟩ := hof y hy
      obtain ⟨hHy, hylt⟩ := h.told t ht q hq1 _ hyq
      obtain ⟨-, -, -, -, t2, ht2, e1, e2, e3, e4⟩ := h.hist _ _ hHy
      have hyr2 : u.r ≤ y.2.r := hyr _ hD
      rw [hys] at e4
      have h5 := ih t2 y.2.d ht2 e3 e4 (by omega) (by omega)
      have h6 : look t.pro v.s = some (valS t.prs v.s) := by
        rw [hpro]
        refine look_kept ?_ ex
        unfold openL
        rw [if_pos ho]
        refine look_ents _ _ _ ?_
        have htop := (topL_spec t.prs 0).2.1 p hp1 u hu
        have h1 := ((right_vs hR hp1).1 u hu).1
        unfold openN
        omega
      rw [hp] at h6
      rw [Option.some.inj h6, h5]
      exact hyd.symm
/-- No two values are chosen for one slot, ever. -/
theorem two {N : Int} {ms : List Mem} {ts : List Tn} {H : Int → V → Prop} (h : Inv N ms ts H) {r1 r2 s : Int} {d1 d2 : List Nat} (h1 : Maj N H r1 s d1) (h2 : Maj N H r2 s d2) : d1 = d2 := by
  have aux : ∀ (r1 r2 : Int) (d1 d2 : List Nat), Maj N H r1 s d1 → Maj N H r2 s d2 → r1 ≤ r2 → d1 = d2 := by
    intro r1 r2 d1 d2 h1 h2 hle
    obtain ⟨X, hX1, hX2, hX3⟩ := h2
    obtain ⟨x, hx⟩ : ∃ x, x ∈ X := by
      cases X with
      | nil => simp at hX2; have := h.size; omega
      | cons x X => exact ⟨x, List.mem_cons_self⟩
    obtain ⟨-, -, v, hv, rfl, rfl, rfl⟩ := hX3 x hx
    obtain ⟨-, -, -, -, u, hu, e1, e2, e3, e4⟩ := h.hist x v hv
    exact later h h1 u.r.toNat u _ hu e3 e4 (by omega) (by omega)
  rcases Int.le_total r1 r2 with hle | hle
  · exact aux r1 r2 d1 d2 h1 h2 hle
  · exact (aux r2 r1 d2 d1 h2 h1 hle).symm

/-- The promises that all members' votes are. -/
def allP (ms : List Mem) : List Pr := ms.mapIdx fun k m => ⟨(k : Int) + 1, m.vs⟩
/-- What is chosen now a majority has voted for. -/
theorem chosen_maj {N : Int} {ms : List Mem} {ts : List Tn} {H : Int → V → Prop} (h : Inv N ms ts H) {s : Int} {d : List Nat} (hc : (s, d) ∈ chosenA N (allP ms)) : ∃ r, Maj N H r s d := by
  unfold chosenA at hc
  by_cases hR : Right N (allP ms)
  · rw [if_pos hR] at hc
    obtain ⟨s', -, hs⟩ := List.mem_filterMap.1 hc
    unfold chS at hs
    split at hs
    · simp at hs
    · rename_i hne
      simp only [Option.some.injEq, Prod.mk.injEq] at hs
      obtain ⟨rfl, hd⟩ := hs
      have hW : ∀ c ∈ wonS N (allP ms) s', c ∈ forS (allP ms) s' ∧ wonP N (forS (allP ms) s') c = true := fun c hc => List.mem_filter.1 hc
      obtain ⟨y, hy, hyd, -⟩ := fold_is (wonS N (allP ms) s') (fun c hc => by
        obtain ⟨q, hq, hc⟩ := (mem_forS hR).1 (hW c hc).1
        obtain ⟨z, hz, rfl⟩ := List.mem_map.1 hc
        exact ((right_vs hR hq).1 _ (List.mem_filter.1 hz).1).2.1) (by simpa using hne)
      obtain ⟨hy1, hy2⟩ := hW y hy
      unfold wonP cntS at hy2
      rw [decide_eq_true_eq] at hy2
      have hD : (forS (allP ms) s').Perm ((allP ms).flatMap (at_ s')) := by
        obtain ⟨m, hm⟩ : ∃ m, m = (allP ms).mergeSort (fun a b => decide (a.node ≤ b.node)) := ⟨_, rfl⟩
        have hp : (allP ms).Perm m := by rw [hm]; exact (List.mergeSort_perm _ _).symm
        have hs : m.Pairwise (fun a b => a.node < b.node) := by
          have h1 : m.Pairwise (fun a b => decide (a.node ≤ b.node) = true) := by
            rw [hm]
            exact List.pairwise_mergeSort (fun a b c h1 h2 => by simp only [decide_eq_true_eq] at *; omega) (fun a b => by simp only [Bool.or_eq_true, decide_eq_true_eq]; omega) _
          have h2 : m.Pairwise (fun a b => a.node ≠ b.node) := (hp.pairwise_iff (fun {a b} h e => h e.symm)).1 hR.2.2
          exact (h1.and h2).imp fun ⟨h3, h4⟩ => by simp only [decide_eq_true_eq] at h3; omega
        rw [for_cut hp hs (fun p hpm => by
          have := (chr.prOk_iff.1 (hR.2.1 p (hp.mem_iff.2 hpm))).1
          have h5 := hR.1
          omega) s']
        exact flat_perm _ hp.symm
      have hcl := count_le (sameV y) s' (allP ms) (fun p hp => at_one hR hp s')
      rw [← (hD.filter _).length_eq] at hcl
      refine ⟨y.2.r, ((allP ms).filter (fun p => (at_ s' p).any (sameV y))).map Pr.node, ?_, by rw [List.length_map]; omega, fun x hx => ?_⟩
      · exact List.pairwise_map.2 (hR.2.2.filter _)
      · obtain ⟨p, hp, rfl⟩ := List.mem_map.1 hx
        obtain ⟨hp1, hp2⟩ := List.mem_filter.1 hp
        obtain ⟨z, hz, hzs⟩ := List.any_eq_true.1 hp2
        obtain ⟨v, hv, rfl⟩ := List.mem_map.1 hz
        obtain ⟨hv1, hv2⟩ := List.mem_filter.1 hv
        obtain ⟨k, hk, rfl⟩ := List.mem_mapIdx.1 hp1
        have hH := (h.mem k hk v hv1).1
        have hn := (h.hist _ _ hH)
        unfold sameV at hzs
        simp only [Bool.and_eq_true, beq_iff_eq] at hzs
        refine ⟨hn.1, hn.2.1, v, hH, of_decide_eq_true hv2, hzs.1.1, ?_⟩
        rw [hzs.2, ← hd]
        exact hyd.symm
  · rw [if_neg hR] at hc; simp at hc

theorem lastOk_of {N : Int} : ∀ {vs : List V} {last : Int}, (∀ v ∈ vs, last < v.s ∧ v.s ≤ 1099511627776 ∧ 1 ≤ v.r ∧ 1 ≤ v.n ∧ v.n ≤ N) → vs.Pairwise (fun a b => a.s < b.s) → lastOk N last vs = true
  | [], _, _, _ => rfl
  | v :: vs, last, h, hp => by
    have h1 := h v List.mem_cons_self
    have hp' := List.pairwise_cons.1 hp
    simp only [lastOk, Bool.and_eq_true, decide_eq_true_eq]
    exact ⟨⟨⟨⟨⟨h1.1, h1.2.1⟩, h1.2.2.1⟩, h1.2.2.2.1⟩, h1.2.2.2.2⟩, lastOk_of (fun x hx => ⟨hp'.1 x hx, (h x (List.mem_cons_of_mem _ hx)).2⟩) hp'.2⟩
theorem four_len {vs : List V} (h : vs.Pairwise (fun a b => a.s < b.s)) (hr : ∀ v ∈ vs, 1 ≤ v.s ∧ v.s ≤ 4) : vs.length ≤ 4 := by
  have h1 : (vs.map V.s).Nodup := List.pairwise_map.2 (h.imp fun h => Int.ne_of_lt h)
  have h2 := cho.nod_len 4 _ h1 (fun x hx => by
    obtain ⟨v, hv, rfl⟩ := List.mem_map.1 hx
    exact hr v hv)
  rw [List.length_map] at h2
  exact h2
/-- A majority's promises always tell what is to be proposed. -/
theorem opens {N : Int} {ms : List Mem} {ts : List Tn} {H : Int → V → Prop} (h : Inv N ms ts H) {t : Tn} (ht : t ∈ ts) (hq : N < 2 * (t.prs.length : Int)) : openE N 1 t.prs = 0 := by
  have hv : ∀ p ∈ t.prs, ∀ v ∈ p.vs, 1 ≤ v.s ∧ v.s ≤ 4 ∧ 1 ≤ v.r ∧ 1 ≤ v.n ∧ v.n ≤ N := fun p hp v hv => by
    obtain ⟨-, -, a, b, u, hu, e1, e2, -⟩ := h.hist _ _ (h.told t ht p hp v hv).1
    obtain ⟨i, hi, rfl⟩ := List.getElem_of_mem hu
    have := h.num i hi
    omega
  have hR : Right N t.prs := ⟨h.size.2, fun p hp => chr.prOk_iff.2 ⟨h.node t ht p hp, by
      have := four_len (h.ord t ht p hp) (fun v hx => ⟨(hv p hp v hx).1, (hv p hp v hx).2.1⟩)
      omega, lastOk_of (fun v hx => by have := hv p hp v hx; omega) (h.ord t ht p hp)⟩, h.dist t ht⟩
  have htop : topL 0 t.prs ≤ 4 := by
    rcases (topL_spec t.prs 0).2.2 with e | ⟨p, hp, v, hx, e⟩
    · omega
    · have := hv p hp v hx; omega
  unfold openE
  rw [if_neg (by simp [hR]), if_neg (by omega), if_neg (by omega), if_neg (by omega)]

theorem inv_start (N : Int) (h : 1 ≤ N ∧ N ≤ 5) : Inv N (List.replicate N.toNat ⟨0, 0, []⟩) [] (fun _ _ => False) where
  size := ⟨by rw [List.length_replicate]; omega, h⟩
  num := fun i hi => absurd hi (by simp)
  calm := by simp
  led := by simp
  node := by simp
  prom := by simp
  told := by simp
  all := by simp
  ord := by simp
  dist := by simp
  hist := fun x v hv => hv.elim
  now := fun v k hk hv => hv.elim
  mem := fun k hk v hv => by simp at hv
  mord := fun k hk => by simp
/-- Somebody draws. -/
theorem inv_draw {N : Int} {ms : List Mem} {ts : List Tn} {H : Int → V → Prop} (h : Inv N ms ts H) (n : Int) (hn : 1 ≤ n ∧ n ≤ N) : Inv N ms (ts ++ [⟨(ts.length : Int) + 1, n, [], [], false⟩]) H := by
  have ex : ∀ {t : Tn}, t ∈ ts ++ [⟨(ts.length : Int) + 1, n, [], [], false⟩] → t ∈ ts ∨ t = ⟨(ts.length : Int) + 1, n, [], [], false⟩ := fun ht => by simpa using ht
  exact {
    size := h.size
    num := fun i hi => by
      by_cases hlt : i < ts.length
      · rw [List.getElem_append_left hlt]; exact h.num i hlt
      · rw [List.length_append] at hi
        have : i = ts.length := by simp at hi; omega
        subst this
        rw [List.getElem_append_right (Nat.le_refl _)]
        simpa using hn
    calm := fun t ht => by
      rcases ex ht with ht | rfl
      · exact h.calm t ht
      · exact fun _ => rfl
    led := fun t ht => by
      rcases ex ht with ht | rfl
      · exact h.led t ht
      · exact fun hh => by simp at hh
    node := fun t ht => by
      rcases ex ht with ht | rfl
      · exact h.node t ht
      · simp
    prom := fun t ht => by
      rcases ex ht with ht | rfl
      · exact h.prom t ht
      · simp
    told := fun t ht => by
      rcases ex ht with ht | rfl
      · exact h.told t ht
      · simp
    all := fun t ht => by
      rcases ex ht with ht | rfl
      · exact h.all t ht
      · simp
    ord := fun t ht => by
      rcases ex ht with ht | rfl
      · exact h.ord t ht
      · simp
    dist := fun t ht => by
      rcases ex ht with ht | rfl
      · exact h.dist t ht
      · simp
    hist := fun x v hv => by
      obtain ⟨a, b, c, d, t, ht, r⟩ := h.hist x v hv
      exact ⟨a, b, c, d, t, List.mem_append_left _ ht, r⟩
    now := h.now
    mem := h.mem
    mord := h.mord }
/-- A member is asked to promise, and promises. -/
theorem inv_prepare {N : Int} {ms : List Mem} {ts : List Tn} {H : Int → V → Prop} (h : Inv N ms ts H) {k : Nat} (hk : k < ms.length) {r n : Int} (hr : ms[k].r ≤ r) : Inv N (ms.set k ⟨r, n, ms[k].vs⟩) ts H := by
  have hv : ∀ j (hj : j < (ms.set k ⟨r, n, ms[k].vs⟩).length), (ms.set k ⟨r, n, ms[k].vs⟩)[j].vs = (ms[j]'(by simpa using hj)).vs ∧ (ms[j]'(by simpa using hj)).r ≤ (ms.set k ⟨r, n, ms[k].vs⟩)[j].r := by
    intro j hj
    rw [List.getElem_set]
    split
    · rename_i e; subst e; exact ⟨rfl, hr⟩
    · exact ⟨rfl, Int.le_refl _⟩
  exact {
    size := by rw [List.length_set]; exact h.size
    num := h.num
    calm := h.calm
    led := h.led
    node := h.node
    prom := fun t ht p hp j hj e => Int.le_trans (h.prom t ht p hp j (by simpa using hj) e) (hv j hj).2
    told := h.told
    all := h.all
    ord := h.ord
    dist := h.dist
    hist := h.hist
    now := fun v j hj hH => by rw [(hv j hj).1]; exact h.now v j (by simpa using hj) hH
    mem := fun j hj v hx => by
      rw [(hv j hj).1] at hx
      have := h.mem j (by simpa using hj) v hx
      exact ⟨this.1, Int.le_trans this.2 (hv j hj).2⟩
    mord := fun j hj => by rw [(hv j hj).1]; exact h.mord j (by simpa using hj) }
/-- A turn changes. -/
structure Turns (N : Int) (ms : List Mem) (H : Int → V → Prop) (t : Tn) : Prop where
  calm : t.leads = false → t.pro = []
  led : t.leads = true → openE N 1 t.prs = 0 ∧ ∃ ex, t.pro = openL N 1 t.prs ++ ex
  node : ∀ p ∈ t.prs, 1 ≤ p.node ∧ p.node ≤ N
  prom : ∀ p ∈ t.prs, ∀ k (h : k < ms.length), p.node = k + 1 → t.r ≤ ms[k].r
  told : ∀ p ∈ t.prs, ∀ v ∈ p.vs, H p.node v ∧ v.r < t.r
  all : ∀ p ∈ t.prs, ∀ v, H p.node v → v.r < t.r → ∃ u ∈ p.vs, u.s = v.s ∧ v.r ≤ u.r
  ord : ∀ p ∈ t.prs, p.vs.Pairwise (fun a b => a.s < b.s)
  dist : t.prs.Pairwise (fun a b => a.node ≠ b.node)
theorem Inv.turn {N : Int} {ms : List Mem} {ts : List Tn} {H : Int → V → Prop} (h : Inv N ms ts H) {t : Tn} (ht : t ∈ ts) : Turns N ms H t :=
  ⟨h.calm t ht, h.led t ht, h.node t ht, h.prom t ht, h.told t ht, h.all t ht, h.ord t ht, h.dist t ht⟩
theorem inv_turn {N : Int} {ms : List Mem} {ts : List Tn} {H : Int → V → Prop} (h : Inv N ms ts H) {i : Nat} (hi : i < ts.length) {t : Tn} (hrn : t.r = ts[i].r ∧ t.n = ts[i].n) (ht : Turns N ms H t)
    (hk : ts[i].leads = true → t.leads = true ∧ ∀ s d, look ts[i].pro s = some d → look t.pro s = some d) : Inv N ms (ts.set i t) H := by
  have ex : ∀ {u : Tn}, u ∈ ts.set i t → Turns N ms H u := fun hu => by
    rcases List.mem_or_eq_of_mem_set hu with hu | rfl
    · exact h.turn hu
    · exact ht
  exact {
    size := h.size
    num := fun j hj => by
      rw [List.getElem_set]
      split
      · rename_i e; subst e; rw [hrn.1, hrn.2]; exact h.num i hi
      · exact h.num j (by simpa using hj)
    calm := fun u hu => (ex hu).calm
    led := fun u hu => (ex hu).led
    node := fun u hu => (ex hu).node
    prom := fun u hu => (ex hu).prom
    told := fun u hu => (ex hu).told
    all := fun u hu => (ex hu).all
    ord := fun u hu => (ex hu).ord
    dist := fun u hu => (ex hu).dist
    hist := fun x v hv => by
      obtain ⟨a, b, c, d, u, hu, e1, e2, e3, e4⟩ := h.hist x v hv
      obtain ⟨j, hj, rfl⟩ := List.getElem_of_mem hu
      refine ⟨a, b, c, d, ?_⟩
      by_cases e : j = i
      · subst e
        exact ⟨t, List.mem_set hj t, by rw [hrn.1]; exact e1, by rw [hrn.2]; exact e2, (hk e3).1, (hk e3).2 _ _ e4⟩
      · refine ⟨ts[j], ?_, e1, e2, e3, e4⟩
        rw [List.mem_iff_getElem]
        exact ⟨j, by simpa using hj, by rw [List.getElem_set_ne (fun h => e h.symm)]⟩
    now := h.now
    mem := h.mem
    mord := h.mord }
/-- A draw hears a promise. -/
theorem turns_promise {N : Int} {ms : List Mem} {ts : List Tn} {H : Int → V → Prop} (h : Inv N ms ts H) {t : Tn} (ht : t ∈ ts) (hl : t.leads = false) {k : Nat} (hk : k < ms.length) (hr : ms[k].r = t.r) (hno : ∀ p ∈ t.prs, p.node ≠ (k : Int) + 1) :
    Turns N ms H ⟨t.r, t.n, t.prs ++ [⟨(k : Int) + 1, ms[k].vs⟩], [], false⟩ := by
  have hT := h.turn ht
  have ex : ∀ {p : Pr}, p ∈ t.prs ++ [⟨(k : Int) + 1, ms[k].vs⟩] → p ∈ t.prs ∨ p = ⟨(k : Int) + 1, ms[k].vs⟩ := fun hp => by simpa using hp
  exact {
    calm := fun _ => rfl
    led := fun hh => by simp at hh
    node := fun p hp => by
      rcases ex hp with hp | rfl
      · exact hT.node p hp
      · have := h.size; exact ⟨by show (1 : Int) ≤ (k : Int) + 1; omega, by show (k : Int) + 1 ≤ N; omega⟩
    prom := fun p hp j hj e => by
      rcases ex hp with hp | rfl
      · exact hT.prom p hp j hj e
      · have e' : (k : Int) + 1 = j + 1 := e
        have : j = k := by omega
        subst this
        exact Int.le_of_eq hr.symm
    told := fun p hp v hv => by
      rcases ex hp with hp | rfl
      · exact hT.told p hp v hv
      · obtain ⟨h1, h2⟩ := h.mem k hk v hv
        refine ⟨h1, ?_⟩
        have h3 : v.r ≠ t.r := fun e => by
          obtain ⟨-, -, -, -, u, hu, e1, e2, e3, -⟩ := h.hist _ _ h1
          have := h.one hu ht (by omega)
          subst this
          rw [hl] at e3
          simp at e3
        show v.r < t.r
        omega
    all := fun p hp v hv hlt => by
      rcases ex hp with hp | rfl
      · exact hT.all p hp v hv hlt
      · exact h.now v k hk hv
    ord := fun p hp => by
      rcases ex hp with hp | rfl
      · exact hT.ord p hp
      · exact h.mord k hk
    dist := List.pairwise_append.2 ⟨hT.dist, List.pairwise_singleton _ _, fun a ha b hb => by
      rcases List.mem_singleton.1 hb with rfl
      exact hno a ha⟩ }
/-- A draw has a majority's promises: it leads. -/
theorem turns_lead {N : Int} {ms : List Mem} {H : Int → V → Prop} {t : Tn} (h : Turns N ms H t) (ho : openE N 1 t.prs = 0) : Turns N ms H ⟨t.r, t.n, t.prs, openL N 1 t.prs, true⟩ :=
  ⟨fun hh => by simp at hh, fun _ => ⟨ho, [], by simp⟩, h.node, h.prom, h.told, h.all, h.ord, h.dist⟩
/-- A leader proposes a value of its own. -/
theorem turns_propose {N : Int} {ms : List Mem} {H : Int → V → Prop} {t : Tn} (h : Turns N ms H t) (hl : t.leads = true) (e : Int × List Nat) : Turns N ms H ⟨t.r, t.n, t.prs, t.pro ++ [e], true⟩ :=
  ⟨fun hh => by simp at hh, fun _ => by
    obtain ⟨h1, ex, h2⟩ := h.led hl
    exact ⟨h1, ex ++ [e], by rw [← List.append_assoc, ← h2]⟩, h.node, h.prom, h.told, h.all, h.ord, h.dist⟩
/-- A member votes. -/
theorem inv_vote {N : Int} {ms : List Mem} {ts : List Tn} {H : Int → V → Prop} (h : Inv N ms ts H) {t : Tn} (ht : t ∈ ts) (hl : t.leads = true) {k : Nat} (hk : k < ms.length) (hr : ms[k].r ≤ t.r) {s : Int} {d : List Nat} (hs : 1 ≤ s ∧ s ≤ 4) (hd : look t.pro s = some d) :
    Inv N (ms.set k ⟨t.r, t.n, putV ms[k].vs ⟨s, t.r, t.n, d⟩⟩) ts (fun x v => H x v ∨ (x = (k : Int) + 1 ∧ v = ⟨s, t.r, t.n, d⟩)) := by
  have hlen : ∀ {j : Nat}, j < (ms.set k ⟨t.r, t.n, putV ms[k].vs ⟨s, t.r, t.n, d⟩⟩).length → j < ms.length := fun hj => by simpa using hj
  have hsz := h.size
  exact {
    size := by rw [List.length_set]; exact h.size
    num := h.num
    calm := h.calm
    led := h.led
    node := h.node
    prom := fun u hu p hp j hj e => by
      have h1 := h.prom u hu p hp j (hlen hj) e
      rw [List.getElem_set]
      split
      · rename_i e2; subst e2
        show u.r ≤ t.r
        omega
      · exact h1
    told := fun u hu p hp v hv => ⟨.inl (h.told u hu p hp v hv).1, (h.told u hu p hp v hv).2⟩
    all := fun u hu p hp v hv hlt => by
      rcases hv with hv | ⟨e1, rfl⟩
      · exact h.all u hu p hp v hv hlt
      · have h1 := h.prom u hu p hp k hk e1
        have h2 : t.r < u.r := hlt
        omega
    ord := h.ord
    dist := h.dist
    hist := fun x v hv => by
      rcases hv with hv | ⟨rfl, rfl⟩
      · exact h.hist x v hv
      · exact ⟨by omega, by omega, hs.1, hs.2, t, ht, rfl, rfl, hl, hd⟩
    now := fun v j hj hv => by
      rw [List.getElem_set]
      split
      · rename_i e; subst e
        show ∃ u ∈ putV ms[k].vs ⟨s, t.r, t.n, d⟩, u.s = v.s ∧ v.r ≤ u.r
        rcases hv with hv | ⟨-, rfl⟩
        · obtain ⟨u, hu, e1, e2⟩ := h.now v k hk hv
          by_cases e3 : u.s = s
          · refine ⟨⟨s, t.r, t.n, d⟩, putV_mem.2 (.inl rfl), by rw [← e1, e3], ?_⟩
            have := (h.mem k hk u hu).2
            show v.r ≤ t.r
            omega
          · exact ⟨u, putV_mem.2 (.inr ⟨hu, e3⟩), e1, e2⟩
        · exact ⟨_, putV_mem.2 (.inl rfl), rfl, Int.le_refl _⟩
      · rename_i e
        rcases hv with hv | ⟨e1, -⟩
        · exact h.now v j (hlen hj) hv
        · exact absurd (by omega : k = j) e
    mem := fun j hj v hv => by
      rw [List.getElem_set] at hv ⊢
      split at hv
      · rename_i e; subst e
        rw [if_pos rfl]
        have hv' : v ∈ putV ms[k].vs ⟨s, t.r, t.n, d⟩ := hv
        rcases putV_mem.1 hv' with rfl | ⟨hv', -⟩
        · exact ⟨.inr ⟨rfl, rfl⟩, Int.le_refl _⟩
        · have := h.mem k hk v hv'
          exact ⟨.inl this.1, by show v.r ≤ t.r; omega⟩
      · rename_i e
        rw [if_neg e]
        have := h.mem j (hlen hj) v hv
        exact ⟨.inl this.1, this.2⟩
    mord := fun j hj => by
      rw [List.getElem_set]
      split
      · exact putV_ord (h.mord k hk)
      · exact h.mord j (hlen hj) }
theorem Maj.vote {N : Int} {H : Int → V → Prop} {r s : Int} {d : List Nat} (h : Maj N H r s d) (Q : Int → V → Prop) : Maj N (fun x v => H x v ∨ Q x v) r s d := h.mono fun x v hv => .inl hv
end Go.Proofs.Ytodoncmielfbeaa.chsf
