/-
  ChooseSafe: what is always so of what lies in memory (the plain law's Inv of it), step by step.
-/
import Derived.Test.YtodoncmielfbeaaChSm
namespace Go.Proofs.Ytodoncmielfbeaa.chsn
open Go.ChangeShapes Go.WideShapes Go.ChangeAt Go.RowKit
open Go.Proofs.Ytodoncmielfbeaa.kit Go.Proofs.Ytodoncmielfbeaa.byt Go.Proofs.Ytodoncmielfbeaa.own Go.Proofs.Ytodoncmielfbeaa.accd Go.Proofs.Ytodoncmielfbeaa.accb Go.Proofs.Ytodoncmielfbeaa.acce Go.Proofs.Ytodoncmielfbeaa.chp Go.Proofs.Ytodoncmielfbeaa.chq Go.Proofs.Ytodoncmielfbeaa.chc Go.Proofs.Ytodoncmielfbeaa.chd Go.Proofs.Ytodoncmielfbeaa.che Go.Proofs.Ytodoncmielfbeaa.chw Go.Proofs.Ytodoncmielfbeaa.chsf Go.Proofs.Ytodoncmielfbeaa.chsm
set_option linter.unusedVariables false
set_option linter.unusedSimpArgs false
set_option maxHeartbeats 1000000

def v4 (v : V4) : V := ⟨v.s, v.r, v.n, v.l⟩
def mm (A : AS) : Mem := ⟨A.r, A.n, A.vs.map v4⟩
structure Dat (N : Int) (As : List AS) (us : List Tw) (ch : List Et) : Prop where
  inv : ∃ H, Inv N (As.map mm) (us.map tn) H ∧ ∀ e ∈ ch, ∃ r, Maj N H r e.s e.l
  first : ∀ A ∈ As, A.first = 1
  gp : ∀ u ∈ us, ∀ e ∈ u.es, Byt e.l
  ga : ∀ A ∈ As, ∀ v ∈ A.vs, Byt v.l
theorem byt_nil : Byt [] := fun x hx => by simp at hx
theorem set_map {α β : Type} (f : α → β) (l : List α) (i : Nat) (a : α) : (l.set i a).map f = (l.map f).set i (f a) := List.map_set
theorem map_get {α β : Type} (f : α → β) {l : List α} {i : Nat} (h : i < (l.map f).length) : (l.map f)[i] = f (l[i]'(by simpa using h)) := List.getElem_map _
theorem of_set {α : Type} {l : List α} {i : Nat} {a x : α} (h : x ∈ l.set i a) : x ∈ l ∨ x = a := List.mem_or_eq_of_mem_set h
theorem less_le {r n r' n' : Int} (h : acca.lessB r n r' n' = false) : r' ≤ r := by
  simp only [acca.lessB, Bool.or_eq_false_iff, decide_eq_false_iff_not] at h
  omega
theorem Dat.size {N : Int} {As : List AS} {us : List Tw} {ch : List Et} (h : Dat N As us ch) : (As.length : Int) = N ∧ 1 ≤ N ∧ N ≤ 5 := by
  obtain ⟨H, hI, -⟩ := h.inv
  have := hI.size
  rwa [List.length_map] at this
theorem Dat.num {N : Int} {As : List AS} {us : List Tw} {ch : List Et} (h : Dat N As us ch) {i : Nat} (hi : i < us.length) : us[i].r = i + 1 ∧ 1 ≤ us[i].n ∧ us[i].n ≤ N := by
  obtain ⟨H, hI, -⟩ := h.inv
  have := hI.num i (by simpa using hi)
  rw [map_get] at this
  exact this
theorem Dat.calm {N : Int} {As : List AS} {us : List Tw} {ch : List Et} (h : Dat N As us ch) {u : Tw} (hu : u ∈ us) (hl : u.leads = false) : u.es = [] := by
  obtain ⟨H, hI, -⟩ := h.inv
  have := hI.calm (tn u) (List.mem_map_of_mem hu) hl
  exact List.map_eq_nil_iff.1 this
theorem dat_start (N : Int) (hN : 1 ≤ N ∧ N ≤ 5) : Dat N (List.replicate N.toNat startS) [] [] :=
  ⟨⟨_, by rw [List.map_replicate]; exact inv_start N hN, by simp⟩, fun A hA => by rw [List.eq_of_mem_replicate hA]; rfl, by simp, fun A hA => by rw [List.eq_of_mem_replicate hA]; simp [startS]⟩
theorem Dat.draw {N : Int} {As : List AS} {us : List Tw} {ch : List Et} (h : Dat N As us ch) {u : Tw} (hn : 1 ≤ u.n ∧ u.n ≤ N) (hr : u.r = (us.length : Int) + 1) (hl : u.l = [] ∧ u.es = [] ∧ u.leads = false) : Dat N As (us ++ [u]) ch := by
  obtain ⟨H, hI, hM⟩ := h.inv
  refine ⟨⟨H, ?_, hM⟩, h.first, fun v hv => ?_, h.ga⟩
  · have h1 := inv_draw hI u.n hn
    rw [List.length_map] at h1
    rw [List.map_append, List.map_singleton]
    have e : tn u = ⟨(us.length : Int) + 1, u.n, [], [], false⟩ := by rw [tn, hl.1, hl.2.1, hl.2.2, hr]; rfl
    rw [e]; exact h1
  · rcases List.mem_append.1 hv with hv | hv
    · exact h.gp v hv
    · rw [List.mem_singleton.1 hv, hl.2.1]; simp
theorem Dat.prepare {N : Int} {As : List AS} {us : List Tw} {ch : List Et} (h : Dat N As us ch) {k : Nat} (hk : k < As.length) {r n : Int} (hl : acca.lessB r n As[k].r As[k].n = false) : Dat N (As.set k ⟨r, n, As[k].first, As[k].vs⟩) us ch := by
  obtain ⟨H, hI, hM⟩ := h.inv
  refine ⟨⟨H, ?_, hM⟩, fun A hA => ?_, h.gp, fun A hA => ?_⟩
  · have h1 := inv_prepare hI (k := k) (by simpa using hk) (r := r) (n := n) (by rw [map_get]; exact less_le hl)
    rw [map_get] at h1
    rw [set_map]; exact h1
  · rcases of_set hA with hA | rfl
    · exact h.first A hA
    · exact h.first As[k] (List.getElem_mem hk)
  · rcases of_set hA with hA | rfl
    · exact h.ga A hA
    · exact h.ga As[k] (List.getElem_mem hk)
theorem Dat.promise {N : Int} {As : List AS} {us : List Tw} {ch : List Et} (h : Dat N As us ch) {i k : Nat} (hi : i < us.length) (hl : us[i].leads = false) (hk : k < As.length) (hr : As[k].r = us[i].r) (hno : ∀ p ∈ us[i].l, p.node ≠ (k : Int) + 1)
    {u : Tw} (hu : u.r = us[i].r ∧ u.n = us[i].n ∧ u.es = us[i].es ∧ u.leads = false) {q : Pt} (hq : u.l = us[i].l ++ [q]) (hqn : q.node = (k : Int) + 1) (hqv : q.vs.map lv = As[k].vs) : Dat N As (us.set i u) ch := by
  obtain ⟨H, hI, hM⟩ := h.inv
  have hes : us[i].es = [] := h.calm (List.getElem_mem hi) hl
  refine ⟨⟨H, ?_, hM⟩, h.first, fun v hv => ?_, h.ga⟩
  · have hmi : i < (us.map tn).length := by simpa using hi
    have hmk : k < (As.map mm).length := by simpa using hk
    have ht := turns_promise hI (t := tn us[i]) (List.mem_map_of_mem (List.getElem_mem hi)) hl hmk (by rw [map_get]; exact hr) (fun p hp => by
      obtain ⟨p', hp', rfl⟩ := List.mem_map.1 hp
      exact hno p' hp')
    rw [map_get] at ht
    have e : tn u = ⟨us[i].r, us[i].n, us[i].l.map pv ++ [⟨(k : Int) + 1, (mm As[k]).vs⟩], [], false⟩ := by
      have e2 : pv q = ⟨(k : Int) + 1, (mm As[k]).vs⟩ := by
        rw [pv, hqn, mm, ← hqv, List.map_map]; rfl
      rw [tn, hu.1, hu.2.1, hu.2.2.1, hu.2.2.2, hes, hq, List.map_append, List.map_singleton, e2]; rfl
    rw [set_map, e]
    refine inv_turn hI hmi (by rw [map_get]; exact ⟨rfl, rfl⟩) ht (fun hh => ?_)
    rw [map_get] at hh
    have : us[i].leads = true := hh
    rw [hl] at this; simp at this
  · rcases of_set hv with hv | rfl
    · exact h.gp v hv
    · rw [hu.2.2.1, hes]; simp
theorem fold_good (G : List Nat → Prop) : ∀ (D : List (Int × V)) (st : Int × Int × List Nat), G st.2.2 → (∀ c ∈ D, G c.2.d) → G (D.foldl stp st).2.2
  | [], st, h, _ => h
  | c :: D, st, h, hD => by
    rw [List.foldl_cons]
    refine fold_good G D _ ?_ (fun x hx => hD x (List.mem_cons_of_mem _ hx))
    unfold stp
    split
    · exact hD c List.mem_cons_self
    · exact h
theorem open_good (G : List Nat → Prop) (h0 : G []) {N : Int} {L : List Pr} (h : ∀ p ∈ L, ∀ v ∈ p.vs, G v.d) : ∀ e ∈ openL N 1 L, G e.2 := by
  unfold openL
  split
  · intro e he
    unfold ents at he
    obtain ⟨i, -, rfl⟩ := List.mem_map.1 he
    show G (valS L _)
    unfold valS
    refine fold_good G _ _ h0 (fun c hc => ?_)
    unfold forS at hc
    obtain ⟨n, -, hc⟩ := List.mem_flatMap.1 hc
    obtain ⟨p, hp, hc⟩ := List.mem_flatMap.1 hc
    obtain ⟨v, hv, rfl⟩ := List.mem_map.1 hc
    exact h p (List.mem_filter.1 hp).1 v (List.mem_filter.1 hv).1
  · simp
theorem Dat.lead {N : Int} {As : List AS} {us : List Tw} {ch : List Et} (h : Dat N As us ch) {i : Nat} (hi : i < us.length) (hl : us[i].leads = false) (ho : openE N 1 (us[i].l.map pv) = 0) (hb : ∀ p ∈ us[i].l, ∀ v ∈ p.vs, Byt v.l)
    {u : Tw} (hu : u.r = us[i].r ∧ u.n = us[i].n ∧ u.l = us[i].l ∧ u.leads = true) (he : u.es.map le = openL N 1 (us[i].l.map pv)) : Dat N As (us.set i u) ch := by
  obtain ⟨H, hI, hM⟩ := h.inv
  refine ⟨⟨H, ?_, hM⟩, h.first, fun v hv => ?_, h.ga⟩
  · have hmi : i < (us.map tn).length := by simpa using hi
    have ht := turns_lead (hI.turn (t := tn us[i]) (List.mem_map_of_mem (List.getElem_mem hi))) ho
    have e : tn u = ⟨us[i].r, us[i].n, us[i].l.map pv, openL N 1 (us[i].l.map pv), true⟩ := by
      rw [tn, hu.1, hu.2.1, hu.2.2.1, hu.2.2.2, he]
    rw [set_map, e]
    refine inv_turn hI hmi (by rw [map_get]; exact ⟨rfl, rfl⟩) ht (fun hh => ?_)
    rw [map_get] at hh
    have : us[i].leads = true := hh
    rw [hl] at this; simp at this
  · rcases of_set hv with hv | rfl
    · exact h.gp v hv
    · intro e hh
      have h1 : le e ∈ openL N 1 (us[i].l.map pv) := by rw [← he]; exact List.mem_map_of_mem hh
      exact open_good Byt byt_nil (fun p hp x hx => by
        obtain ⟨p', hp', rfl⟩ := List.mem_map.1 hp
        obtain ⟨x', hx', rfl⟩ := List.mem_map.1 hx
        exact hb p' hp' x' hx') _ h1
theorem Dat.propose {N : Int} {As : List AS} {us : List Tw} {ch : List Et} (h : Dat N As us ch) {i : Nat} (hi : i < us.length) (hl : us[i].leads = true) {e : Et} (hb : Byt e.l)
    {u : Tw} (hu : u.r = us[i].r ∧ u.n = us[i].n ∧ u.l = us[i].l ∧ u.leads = true ∧ u.es = us[i].es ++ [e]) : Dat N As (us.set i u) ch := by
  obtain ⟨H, hI, hM⟩ := h.inv
  refine ⟨⟨H, ?_, hM⟩, h.first, fun v hv => ?_, h.ga⟩
  · have hmi : i < (us.map tn).length := by simpa using hi
    have ht := turns_propose (hI.turn (t := tn us[i]) (List.mem_map_of_mem (List.getElem_mem hi))) hl (le e)
    have e2 : tn u = ⟨us[i].r, us[i].n, us[i].l.map pv, us[i].es.map le ++ [le e], true⟩ := by
      rw [tn, hu.1, hu.2.1, hu.2.2.1, hu.2.2.2.1, hu.2.2.2.2, List.map_append]; rfl
    rw [set_map, e2]
    refine inv_turn hI hmi (by rw [map_get]; exact ⟨rfl, rfl⟩) ht (fun hh => ⟨rfl, fun s d hd => ?_⟩)
    rw [map_get] at hd
    exact look_kept hd _
  · rcases of_set hv with hv | rfl
    · exact h.gp v hv
    · rw [hu.2.2.2.2]
      intro x hx
      rcases List.mem_append.1 hx with hx | hx
      · exact h.gp us[i] (List.getElem_mem hi) x hx
      · rw [List.mem_singleton.1 hx]; exact hb
theorem put4_v4 (vs : List V4) (v : V4) : (put4 vs v).map v4 = putV (vs.map v4) (v4 v) := by
  unfold put4 putV
  rw [List.map_append, List.map_cons, List.filter_map, List.filter_map]
  rfl
theorem look_mem {es : List Et} {s : Int} {d : List Nat} (h : chsf.look (es.map le) s = some d) : ∃ e ∈ es, e.s = s ∧ e.l = d := by
  unfold chsf.look at h
  obtain ⟨x, hx, rfl⟩ := Option.map_eq_some_iff.1 h
  have h1 := List.mem_of_find?_eq_some hx
  have h2 := List.find?_some hx
  obtain ⟨e, he, rfl⟩ := List.mem_map.1 h1
  exact ⟨e, he, of_decide_eq_true h2, rfl⟩
theorem acc_zero {r n first : Int} {v : V4} (h : accE r n first v = 0) : acca.lessB v.r v.n r n = false := by
  cases hl : acca.lessB v.r v.n r n with
  | false => rfl
  | true =>
    unfold accE at h
    rw [hl] at h
    simp at h
    split at h <;> simp at h
theorem Dat.vote {N : Int} {As : List AS} {us : List Tw} {ch : List Et} (h : Dat N As us ch) {i k : Nat} (hi : i < us.length) (hl : us[i].leads = true) {s : Int} {d : List Nat} (hd : chsf.look (us[i].es.map le) s = some d) (hs : 1 ≤ s ∧ s ≤ 4) (hk : k < As.length) :
    Dat N (As.set k (accS As[k] ⟨s, us[i].r, us[i].n, d⟩)) us ch := by
  by_cases he : accE As[k].r As[k].n As[k].first ⟨s, us[i].r, us[i].n, d⟩ = 0
  · obtain ⟨H, hI, hM⟩ := h.inv
    have hS : accS As[k] ⟨s, us[i].r, us[i].n, d⟩ = ⟨us[i].r, us[i].n, As[k].first, put4 As[k].vs ⟨s, us[i].r, us[i].n, d⟩⟩ := by rw [accS, if_pos he]
    rw [hS]
    have hmk : k < (As.map mm).length := by simpa using hk
    have h1 := inv_vote hI (t := tn us[i]) (List.mem_map_of_mem (List.getElem_mem hi)) hl hmk (by rw [map_get]; exact less_le (acc_zero he)) hs hd
    rw [map_get] at h1
    refine ⟨⟨fun x v => H x v ∨ (x = (k : Int) + 1 ∧ v = ⟨s, (tn us[i]).r, (tn us[i]).n, d⟩), ?_, fun e hc => ?_⟩, fun A hA => ?_, h.gp, fun A hA => ?_⟩
    · rw [set_map]
      have e2 : mm ⟨us[i].r, us[i].n, As[k].first, put4 As[k].vs ⟨s, us[i].r, us[i].n, d⟩⟩ = ⟨us[i].r, us[i].n, putV (mm As[k]).vs ⟨s, us[i].r, us[i].n, d⟩⟩ := by
        rw [mm, put4_v4]; rfl
      rw [e2]; exact h1
    · obtain ⟨r, hr⟩ := hM e hc
      exact ⟨r, hr.vote _⟩
    · rcases of_set hA with hA | rfl
      · exact h.first A hA
      · exact h.first As[k] (List.getElem_mem hk)
    · rcases of_set hA with hA | rfl
      · exact h.ga A hA
      · intro v hv
        have hv' : v ∈ put4 As[k].vs ⟨s, us[i].r, us[i].n, d⟩ := hv
        unfold put4 at hv'
        rcases List.mem_append.1 hv' with hv' | hv'
        · exact h.ga As[k] (List.getElem_mem hk) v (List.mem_filter.1 hv').1
        · rcases List.mem_cons.1 hv' with rfl | hv'
          · obtain ⟨e, hem, -, rfl⟩ := look_mem hd
            exact h.gp us[i] (List.getElem_mem hi) e hem
          · exact h.ga As[k] (List.getElem_mem hk) v (List.mem_filter.1 hv').1
  · have hS : accS As[k] ⟨s, us[i].r, us[i].n, d⟩ = As[k] := by rw [accS, if_neg he]
    rw [hS, List.set_getElem_self]
    exact h
theorem Dat.opens {N : Int} {As : List AS} {us : List Tw} {ch : List Et} (h : Dat N As us ch) {u : Tw} (hu : u ∈ us) (hq : N < 2 * (u.l.length : Int)) : openE N 1 (u.l.map pv) = 0 := by
  obtain ⟨H, hI, hM⟩ := h.inv
  exact chsf.opens hI (t := tn u) (List.mem_map_of_mem hu) (by show N < 2 * ((u.l.map pv).length : Int); rw [List.length_map]; exact hq)
/-- What Chosen is asked about. -/
def allV (As : List AS) : List Pr := allP (As.map mm)
theorem Dat.clash {N : Int} {As : List AS} {us : List Tw} {ch : List Et} (h : Dat N As us ch) {s : Int} {d : List Nat} (he : (s, d) ∈ chosenA N (allV As)) {x : Et} (hx : x ∈ ch) (hs : x.s = s) : x.l = d := by
  obtain ⟨H, hI, hM⟩ := h.inv
  obtain ⟨r1, h1⟩ := hM x hx
  obtain ⟨r2, h2⟩ := chosen_maj hI he
  rw [hs] at h1
  exact two hI h1 h2
theorem Dat.chosen {N : Int} {As : List AS} {us : List Tw} {ch : List Et} (h : Dat N As us ch) {e : Et} (he : le e ∈ chosenA N (allV As)) : Dat N As us (ch ++ [e]) := by
  obtain ⟨H, hI, hM⟩ := h.inv
  refine ⟨⟨H, hI, fun x hx => ?_⟩, h.first, h.gp, h.ga⟩
  rcases List.mem_append.1 hx with hx | hx
  · exact hM x hx
  · rw [List.mem_singleton.1 hx]
    exact chosen_maj hI he
end Go.Proofs.Ytodoncmielfbeaa.chsn
