/-
  advance: the commit goes on over the slots for which enough have voted.
-/
import Derived.Test.YtcaakiaenfkeaaaGreatN13
import Derived.Test.YtcaakiaenfkeaaaGreatN14
import Derived.Test.YtcaakiaenfkeaaaGreatN10
import Derived.Test.YtcaakiaenfkeaaaGreatN12
import Derived.ArgAppend
namespace Go.Proofs.YtcaakiaenfkeaaaGreat.pead
open Go.ChangeShapes Go.WideShapes Go.ChangeAt Go.RowKit
open Go.Proofs.YtcaakiaenfkeaaaGreat.kit Go.Proofs.YtcaakiaenfkeaaaGreat.mapkit Go.Proofs.YtcaakiaenfkeaaaGreat.byt Go.Proofs.YtcaakiaenfkeaaaGreat.own Go.Proofs.YtcaakiaenfkeaaaGreat.accd Go.Proofs.YtcaakiaenfkeaaaGreat.accb Go.Proofs.YtcaakiaenfkeaaaGreat.acce Go.Proofs.YtcaakiaenfkeaaaGreat.chd Go.Proofs.YtcaakiaenfkeaaaGreat.che Go.Proofs.YtcaakiaenfkeaaaGreat.ownr Go.Proofs.YtcaakiaenfkeaaaGreat.pep Go.Proofs.YtcaakiaenfkeaaaGreat.peb Go.Proofs.YtcaakiaenfkeaaaGreat.pem Go.Proofs.YtcaakiaenfkeaaaGreat.pen Go.Proofs.YtcaakiaenfkeaaaGreat.pes Go.Proofs.YtcaakiaenfkeaaaGreat.pet Go.Proofs.YtcaakiaenfkeaaaGreat.pev Go.Proofs.YtcaakiaenfkeaaaGreat.pepr
open Go.Proofs.YtcaakiaenfkeaaaGreat.bal (enoughB)
open Go.Proofs.YtcaakiaenfkeaaaGreat.logq (LogAt RowQ KeepQ Fit El flat ItAt Between runF)
set_option linter.unusedVariables false
set_option linter.unusedSimpArgs false
set_option maxHeartbeats 4000000
set_option maxRecDepth 100000
attribute [local go_sem] Oper.semAt_some

/-- What Run tells, as it lies. -/
def runM : Int → List ((Sl Nat × Sl Int) × Bool) → List (Int × (Sl Nat × Sl Int))
  | s, x :: l => if x.2 then (s, x.1) :: runM (s + 1) l else []
  | _, [] => []
def rawR (y : Int × (Sl Nat × Sl Int)) : Int × El := (y.1, rawE y.2)
def datR (y : Int × (Sl Nat × Sl Int)) : Int × (List Nat × List Int) := (y.1, (y.2.1.l, y.2.2.l))
theorem runF_cons (f : Int) (x : El × Bool) (cs : List (El × Bool)) : runF f (x :: cs) = if x.2 then (f, x.1) :: runF (f + 1) cs else [] := by
  unfold runF logq.nextN
  cases h : x.2 with
  | true => simp [List.takeWhile_cons, h, logq.allF]
  | false => simp [List.takeWhile_cons, h, logq.allF]
theorem runF_runM (f : Int) (cs : List ((Sl Nat × Sl Int) × Bool)) : runF f (cs.map rawC) = (runM f cs).map rawR := by
  induction cs generalizing f with
  | nil => rfl
  | cons x cs ih =>
    rw [List.map_cons, runF_cons]
    show (if x.2 then (f, rawE x.1) :: runF (f + 1) (cs.map rawC) else []) = (if x.2 then (f, x.1) :: runM (f + 1) cs else []).map rawR
    split
    · rw [ih, List.map_cons]; rfl
    · rfl
theorem runOf_runM (f : Int) (cs : List ((Sl Nat × Sl Int) × Bool)) : runOf f (cs.map fun x => if x.2 then some (x.1.1.l, x.1.2.l) else none) = (runM f cs).map datR := by
  induction cs generalizing f with
  | nil => rfl
  | cons x cs ih =>
    rw [List.map_cons]
    show _ = (if x.2 then (f, x.1) :: runM (f + 1) cs else []).map datR
    cases h : x.2 with
    | true =>
      rw [if_pos rfl, if_pos rfl, List.map_cons]
      show (f, _) :: runOf (f + 1) _ = _
      rw [ih]; rfl
    | false => rfl
theorem runM_mem {f : Int} {cs : List ((Sl Nat × Sl Int) × Bool)} {y : Int × (Sl Nat × Sl Int)} (h : y ∈ runM f cs) : ∃ x ∈ cs, x.2 = true ∧ x.1 = y.2 := by
  induction cs generalizing f with
  | nil => simp [runM] at h
  | cons x cs ih =>
    have h : y ∈ (if x.2 then (f, x.1) :: runM (f + 1) cs else []) := h
    split at h
    · rename_i hx
      rcases List.mem_cons.1 h with rfl | h
      · exact ⟨x, by simp, hx, rfl⟩
      · obtain ⟨z, h1, h2⟩ := ih h
        exact ⟨z, by simp [h1], h2⟩
    · simp at h
theorem runM_len (f : Int) (cs : List ((Sl Nat × Sl Int) × Bool)) : (runM f cs).length ≤ cs.length := by
  induction cs generalizing f with
  | nil => exact Nat.le_refl _
  | cons x cs ih =>
    show (if x.2 then (f, x.1) :: runM (f + 1) cs else []).length ≤ _
    split
    · have := ih (f + 1); simp; exact this
    · simp
/-- Both ways out of a loop over a function in one. -/
theorem range_two {F : Fence} {n : Nat} {P : Program} {c : Code} {id : Nat} {a : Act} {w : World} {Q : Exit → Act → World → Prop} (X : Nat → World → Prop) (h : c.wpIn F n P (fun ex act W => (ex = .normal ∨ ex = .exit id) ∧ ∃ D, act = { a with defers := { target := .collected D, args := #[] } :: a.defers } ∧ X D W) a w)
    (h2 : ∀ D W, X D W → Q .normal { a with defers := { target := .collected D, args := #[] } :: a.defers } W) : c.wpIn F n P (Exit.inBlock id Q) a w := by
  refine Code.wpIn_mono ?_ h
  rintro ex act W ⟨hx, D, rfl, hX⟩
  have := h2 D W hX
  rcases hx with rfl | rfl
  · exact this
  · simpa [Exit.inBlock] using this
/-- A block that is no cells, and nobody's, is turned. -/
theorem PeerAt.turn {W W' : World} {O : Owners} {i pb D : Nat} {M : PM} (h : PeerAt W O i pb M) (hg : W.grownBy W' (some D)) (hD : O D = ro) {o : Obj} (ho : W.heap[D]? = some o) (hc : o.isCells = false) : PeerAt W' O i pb M ∧ Fr (fun t => t = ro) W O W' O := by
  have hne : ∀ k (o' : Obj), W.heap[k]? = some o' → o'.isCells = true → k ≠ D := by
    rintro k o' hk hc' rfl
    rw [ho] at hk
    obtain rfl := Option.some.inj hk
    rw [hc] at hc'; simp at hc'
  have F : Fr (fun t => t = ro) W O W' O := ⟨hg.os, hg.tape, hg.output, hg.size, fun _ _ => rfl, fun k hk hs => hg.block k hk (fun e => hs (by rw [Option.some.inj e]; exact hD)), fun g cs T _ hh => (hg.block g (kit.blk hh).2.2 (fun e => hne g _ hh rfl (Option.some.inj e))).trans hh, h.clean.more hg.size⟩
  obtain ⟨-, t1, t2⟩ := h.parts.acc (fun x => x)
  refine ⟨PeerAt.mv h ⟨hg.size, fun k o' hk hc' => ⟨(hg.block k (Array.getElem?_eq_some_iff.1 hk).1 (fun e => hne k o' hk hc' (Option.some.inj e))).trans hk, rfl⟩, fun _ e => e⟩ F.clean ⟨hg.block _ (mb_lt h) (fun e => ?_), rfl⟩ (fun j hj x hx => (h.parts.box j hj (fun x => x) x hx).fr (S := fun t => t = ro) (fun e => h.me (congrArg Prod.fst e)) F), F⟩
  rw [Option.some.inj e, hD] at t2
  exact h.me (congrArg Prod.fst t2).symm
theorem between_a {lo hi : Nat} {w : World} (h : hi ≤ w.heap.size) (W : World) (o : Obj) (hW : w.heap.size ≤ W.heap.size) : Between lo hi W (W.alloc o) := Between.of_below (below_new1 W o) (Nat.le_trans h hW)

theorem chose_len (P : PD) (s : Int) (d : List Nat) : (P.chose s d).index = P.index ∧ (P.chose s d).entries.length = P.entries.length + 1 ∧ (P.chose s d).chosen.length = P.chosen.length + 1 ∧ (P.chose s d).notes.length = P.notes.length + 1 ∧ (P.chose s d).leads = P.leads ∧ (P.chose s d).nodes = P.nodes ∧ (P.chose s d).opn.isSome = P.opn.isSome := by
  unfold PD.chose PD.settled
  by_cases hl : P.leads = true
  · rw [if_pos (by exact hl)]
    refine ⟨rfl, by simp, by simp, by simp, rfl, rfl, ?_⟩
    show (P.opn.map _).isSome = _
    rw [Option.isSome_map]
  · rw [if_neg (by exact hl)]
    exact ⟨rfl, by simp, by simp, by simp, rfl, rfl, rfl⟩
theorem choseAll_len (P : PD) (l : List (Int × (List Nat × List Int))) : (P.choseAll l).index = P.index ∧ (P.choseAll l).entries.length = P.entries.length + l.length ∧ (P.choseAll l).chosen.length = P.chosen.length + l.length ∧ (P.choseAll l).notes.length = P.notes.length + l.length ∧ (P.choseAll l).leads = P.leads ∧ (P.choseAll l).nodes = P.nodes ∧ (P.choseAll l).opn.isSome = P.opn.isSome := by
  induction l generalizing P with
  | nil => exact ⟨rfl, rfl, rfl, rfl, rfl, rfl, rfl⟩
  | cons x l ih =>
    rw [choseAll_cons]
    obtain ⟨a1, a2, a3, a4, a5, a6, a7⟩ := ih (P.chose x.1 x.2.1)
    obtain ⟨b1, b2, b3, b4, b5, b6, b7⟩ := chose_len P x.1 x.2.1
    exact ⟨a1.trans b1, by rw [a2, b2]; simp; omega, by rw [a3, b3]; simp; omega, by rw [a4, b4]; simp; omega, a5.trans b5, a6.trans b6, a7.trans b7⟩
/-- What holds of the member while the loop goes on. -/
def AtI (M : PM) (R : List (Int × (Sl Nat × Sl Int))) (pre : List {x // x ∈ R}) (M' : PM) : Prop := M'.dat = M.dat.choseAll (pre.map fun x => datR x.1) ∧ ∀ x ∈ pre, enoughB M.nodes x.1.2.2.l = true
def AtX (M : PM) (R : List (Int × (Sl Nat × Sl Int))) (c : Code) (pre : List {x // x ∈ R}) (M' : PM) : Prop := c = .exit 0 ∧ ∃ pre0 x, pre = pre0 ++ [x] ∧ enoughB M.nodes x.1.2.2.l = false ∧ AtI M R pre0 M'
/-- Behind the loop. -/
def Aft (w : World) (O : Owners) (i pb : Nat) (M : PM) (D : Nat) (W : World) : Prop :=
  w.heap.size ≤ D ∧ W.heap[D]? = some (.deferred (some [])) ∧ ∃ M', Lp w O i pb M W M' ∧ M'.dat = M.dat.choseAll M.dat.wins
theorem aft_done {w W : World} {O : Owners} {i pb D : Nat} {M : PM} {b : Nat} {L : LogM} (hob : M.ob = some (b, L)) (hD : w.heap.size ≤ D) (hK : W.heap[D]? = some (.deferred (some []))) {xs : List {x // x ∈ runM L.first L.cs}} (hxs : xs.map Subtype.val = runM L.first L.cs) (h : ∃ M', Lp w O i pb M W M' ∧ AtI M _ xs M') : Aft w O i pb M D W := by
  obtain ⟨M', h1, h2, h3⟩ := h
  have hopn : M.dat.opn = some L.dat := by show M.ob.map (fun x => x.2.dat) = _; rw [hob]; rfl
  have hr : runOf L.dat.first L.dat.cells = (runM L.first L.cs).map datR := runOf_runM _ _
  refine ⟨hD, hK, M', h1, ?_⟩
  have hx : xs.map (fun x => datR x.1) = (runM L.first L.cs).map datR := by have := congrArg (List.map datR) hxs; rw [List.map_map] at this; exact this
  rw [h2, hx, wins_at M.dat L.dat hopn (runM L.first L.cs).length (by rw [hr, List.length_map]; exact Nat.le_refl _) (fun y hy => ?_) (fun hh => by rw [hr, List.length_map] at hh; omega)]
  · rw [hr, List.take_of_length_le (by rw [List.length_map]; exact Nat.le_refl _)]
  · rw [hr] at hy
    obtain ⟨z, hz, rfl⟩ := List.mem_map.1 (List.mem_of_mem_take hy)
    rw [← hxs] at hz
    obtain ⟨u, hu, rfl⟩ := List.mem_map.1 hz
    exact h3 u hu
theorem aft_stop {w W : World} {O : Owners} {i pb D : Nat} {M : PM} {b : Nat} {L : LogM} (hob : M.ob = some (b, L)) (hD : w.heap.size ≤ D) (hK : W.heap[D]? = some (.deferred (some []))) {c : Code} {pre : List {x // x ∈ runM L.first L.cs}} (hpre : pre.map Subtype.val <+: runM L.first L.cs) (h : ∃ M', Lp w O i pb M W M' ∧ AtX M _ c pre M') : Aft w O i pb M D W ∧ c = .exit 0 := by
  obtain ⟨M', h1, hc, pre0, x, rfl, h4, h2, h3⟩ := h
  have hopn : M.dat.opn = some L.dat := by show M.ob.map (fun x => x.2.dat) = _; rw [hob]; rfl
  have hr : runOf L.dat.first L.dat.cells = (runM L.first L.cs).map datR := runOf_runM _ _
  refine ⟨⟨hD, hK, M', h1, ?_⟩, hc⟩
  rw [List.map_append, List.map_singleton] at hpre
  obtain ⟨tl, htl⟩ := hpre
  have hlen : pre0.length < (runM L.first L.cs).length := by have := congrArg List.length htl; simp at this; omega
  have htk : (runM L.first L.cs).take pre0.length = pre0.map Subtype.val := by
    refine (congrArg (List.take pre0.length) htl).symm.trans ?_
    rw [List.append_assoc, List.take_append_of_le_length (by simp), List.take_of_length_le (by simp)]
  have hat : (runM L.first L.cs)[pre0.length] = x.1 := by
    have : (runM L.first L.cs)[pre0.length]? = some x.1 := by
      refine (congrArg (fun l : List (Int × (Sl Nat × Sl Int)) => l[pre0.length]?) htl).symm.trans ?_
      rw [List.append_assoc, List.getElem?_append_right (by simp)]
      simp
    rw [List.getElem?_eq_getElem hlen] at this
    exact Option.some.inj this
  have hx : pre0.map (fun x => datR x.1) = ((runM L.first L.cs).take pre0.length).map datR := by have := congrArg (List.map datR) htk; rw [List.map_map] at this; exact this.symm
  rw [h2, hx, wins_at M.dat L.dat hopn pre0.length (by rw [hr, List.length_map]; omega) (fun y hy => ?_) (fun hh => ?_)]
  · rw [hr, List.map_take]
  · rw [hr, ← List.map_take, htk] at hy
    obtain ⟨z, hz, rfl⟩ := List.mem_map.1 hy
    obtain ⟨u, hu, rfl⟩ := List.mem_map.1 hz
    exact h3 u hu
  · have : (runOf L.dat.first L.dat.cells)[pre0.length] = datR x.1 := by
      rw [← hat]; simp only [hr, List.getElem_map]
    rw [this]; exact h4
theorem lp_below {w W W' : World} {O : Owners} {i pb : Nat} {M0 M : PM} (h : Lp w O i pb M0 W M) (hb : Below W.heap.size W W') : Lp w O i pb M0 W' M ∧ KeepsFrom w.heap.size W W' := by
  obtain ⟨O', P, F, hn, e1, e2⟩ := h
  refine ⟨⟨O', PeerAt.below P hb, F.trans (Fr.of_below P.clean hb), fun k o hk ho hc => ?_, e1, e2⟩, ⟨hb.size, fun k o _ hk _ => (hb.block k (Array.getElem?_eq_some_iff.1 hk).1).trans hk⟩⟩
  by_cases hz : k < W.heap.size
  · rw [hb.block k hz] at ho; exact hn k o hk ho hc
  · exact P.clean k (Nat.le_of_not_lt hz)

theorem chose_mb {M M' : PM} {s : Int} {d : List Nat} (h : pec.Chose M s d M') : M'.mb = M.mb ∧ M'.pc = M.pc := by
  obtain ⟨x1, x2, x3, a1, a2, a3, rfl⟩ := h
  unfold PM.settled
  split <;> exact ⟨rfl, rfl⟩
theorem advance_step (n : Nat) (hpro : ProOk n) : AdvOk (n + 1) := by
  intro w O i pb M h hg hw
  obtain ⟨w1, hw1⟩ : ∃ w1, w1 = w.alloc (.cells #[.pointer (some ⟨pb, 0, none⟩)] 23) := ⟨_, rfl⟩
  have hb1 : Below w.heap.size w w1 := by rw [hw1]; exact below_new1 _ _
  have hn1 : w1.heap[w.heap.size]? = some (.cells #[.pointer (some ⟨pb, 0, none⟩)] 23 (0, 0)) := by rw [hw1]; exact hp_alloc_new _ _
  have P1 := PeerAt.below h hb1
  obtain ⟨bb, hbb⟩ : ∃ bb, bb = w.heap.size := ⟨_, rfl⟩
  rw [← hbb] at hn1
  have q0 := (blk1 hn1).1
  have qz := (blk1 hn1).2.2
  have x12 : w1.cell? ⟨pb, 12, none⟩ = some (.bool M.leads) := (kit.blk P1.blk).1 12
  have hpz := (kit.blk P1.blk).2.2
  have HPRO := Lib.hid hpro
  have HG := Lib.hid hg
  have HWT := Lib.hid hw
  have HW1 := Lib.hid hw1
  have HBB := Lib.hid hbb
  have HB1 := Lib.hid hb1
  have HN1 := Lib.hid hn1
  have HP := Lib.hid h
  have HP1 := Lib.hid P1
  clear hpro h hg hw hw1 hbb hb1 hn1 P1
  cases hl : M.leads with
  | false =>
    rw [hl] at x12
    have HL := Lib.hid hl
    clear hl
    go_enter Tryz.func35, Tryz.ntmps35
    go_upto_region 1 with fail
    rw [← HW1.out, ← HBB.out]
    go_wp2_with fail
    refine bodyPost_end (v := .tuple #[]) (by simp [results, Tryz.results35, go_sem]) rfl ⟨rfl, M, (adv_no n HL.out).symm, O, HP1.out, Fr.of_below HP.out.clean HB1.out⟩
  | true =>
    rw [hl] at x12
    have HL := Lib.hid hl
    obtain ⟨⟨ob, L⟩, hob⟩ : ∃ x, M.ob = some x := by
      obtain ⟨L, h1, -⟩ := HG.out.opn hl
      have h1 : M.ob.map (fun x => x.2.dat) = some L := h1
      cases hh : M.ob with
      | none => rw [hh] at h1; simp at h1
      | some x => exact ⟨x, rfl⟩
    have HOB := Lib.hid hob
    clear hl hob
    refine (callsIn_wide (n := 5)).1 ?_
    refine callsIn_of_wp_marks Tryz.func35 rfl trivial ?_ rfl
    simp only [Tryz.ntmps35, List.size_toArray, List.length_cons, List.length_nil, Nat.reduceAdd, Nat.reduceSub, Array.replicate_succ, Array.replicate_zero, List.push_toArray, List.append_toArray, List.nil_append, List.cons_append]
    refine wpIn_wide.2 ?_
    go_upto_region 1 with fail
    rw [← HW1.out, ← HBB.out]
    have hCi : 0 ≤ M.index ∧ M.index ≤ 4398046511104 := by have h1 := HG.out.i0; have h2 := HG.out.en; exact ⟨h1, (by show M.dat.index ≤ _; omega)⟩
    have hCe : M.en.l.length ≤ 1000000000 := by have h1 := HG.out.i0; have h2 := HG.out.en; have h3 : M.dat.entries.length = M.en.l.length := List.length_map _; omega
    have HCI := Lib.hid hCi
    have HCE := Lib.hid hCe
    have HCO := Lib.hid (commit_ok w1 O i pb M HP1.out hCi (by omega))
    have HRU : Hid (∀ w2, Below w1.heap.size w1 w2 → Calls Tryz.prog 54 #[.pointer (some ⟨ob, 0, none⟩)] w2 fun e w' => ∃ B B', e = .returned (.func (.func 66) #[] #[.pointer (some ⟨B, 0, none⟩), .pointer (some ⟨B', 0, none⟩)]) ∧ ItAt w' w2.heap.size w'.heap.size B B' L.first (L.cs.map rawC) ∧ Below w2.heap.size w2 w') := by
      intro w2 hb2
      have hlo : LogOk w2 O (i, 4) ob L := (PeerAt.below HP1.out hb2).parts.opn (fun x => x) _ HOB.out
      exact logq.run_ok w2 0 ob L.first 1024 (L.cs.map rawC) hlo.log hlo.fit
    obtain ⟨C, hC⟩ : ∃ C, C = M.index + (M.en.l.length : Int) := ⟨_, rfl⟩
    rw [← hC] at HCO
    have HC := Lib.hid hC
    clear hCi hCe hC
    go_wp2_with (first | (go_at_call 12; refine HCO.out.mono ?_; rintro e w2 ⟨rfl, hb2⟩; have HB2 := Lib.hid hb2; have z0 := cell_step q0 hb2; have z37 : w2.cell? ⟨pb, 37, none⟩ = some (.pointer (some ⟨ob, 0, none⟩)) := (by have h1 := (kit.blk (PeerAt.below HP1.out hb2).blk).1 37; have h2 : (pcells M)[37]? = some (optP (M.ob.map Prod.fst)) := rfl; rw [h1, h2, HOB.out]; rfl); have pz2 := (kit.blk (PeerAt.below HP1.out hb2).blk).2.2; clear hb2) | (go_at_call 54; refine (HRU.out w2 HB2.out).mono ?_; rintro e w3 ⟨B, B', rfl, hit, hb3⟩; have HIT := Lib.hid hit; have HB3 := Lib.hid hb3; clear hit hb3))
    have hb13 : Below w1.heap.size w1 w3 := below_step HB2.out HB3.out
    have P3 := PeerAt.below HP1.out hb13
    have hlo : LogOk w3 O (i, 4) ob L := P3.parts.opn (fun x => x) _ HOB.out
    have hn3 := hp_step HN1.out hb13
    have hf1 := hlo.fit.f1
    have hf2 := hlo.fit.f2
    have hln := hlo.fit.len
    have hlen : (L.cs.map rawC).length ≤ 1024 := by omega
    have hob3 : O bb = ro := by rw [HBB.out]; exact HP.out.clean _ (Nat.le_refl _)
    have HP3 := Lib.hid P3
    have HLO := Lib.hid hlo
    have HN3 := Lib.hid hn3
    have HO3 := Lib.hid hob3
    have HB13 := Lib.hid hb13
    have hs23 := HB3.out.size
    clear P3 hlo hn3 hob3 hb13 hln
    refine (wpIn_wide (n := 5)).1 ?_
    refine range_two (Aft w3 O i pb M) ?_ ?_
    · refine rabox.range_box2 rfl (by omega) (gf := 66) (lb := #[.pointer (some ⟨B, 0, none⟩), .pointer (some ⟨B', 0, none⟩)]) rfl trivial (enters_of Tryz.func66 (by kernel_rfl) rfl)
        (logq.run_itB (R := runM L.first L.cs) (rf := rawR) 4 (by omega) w2.heap.size w3.heap.size B B' L.first (L.cs.map rawC) (runF_runM L.first L.cs).symm w3 HIT.out (Nat.le_refl _) (by omega) hf2 hlen)
        Between.trans (logq.between_b (Nat.le_refl _)) (fun W o hW => between_a (Nat.le_refl _) W o hW) (Below.refl _ _) (fun _ => rfl)
        (fun pre W => ∃ M', Lp w3 O i pb M W M' ∧ AtI M _ pre M') (fun c pre W => ∃ M', Lp w3 O i pb M W M' ∧ AtX M _ c pre M') (lp_own HP3.out (fun pre M' => AtI M _ pre M')) (fun c => lp_own HP3.out (fun pre M' => AtX M _ c pre M'))
        ⟨M, lp_start HP3.out, rfl, by simp⟩ (d0 := 3) (d1 := 4) (fun x => .int .i64 x.1.1) (fun x => .agg #[.slice x.1.2.1.a x.1.2.1.l.length x.1.2.1.c, .slice x.1.2.2.a x.1.2.2.l.length x.1.2.2.c]) (fun x => .cells #[.slice x.1.2.1.a x.1.2.1.l.length x.1.2.1.c, .slice x.1.2.2.a x.1.2.2.l.length x.1.2.2.c] 96) ?assign ?body ?done ?stop
      case assign =>
        intro l x W K hK
        simp only [rawR, rawE]
        gi_wp2
        simpa using hK
      case done =>
        rintro D xs W hD hxs hI hK
        exact ⟨.inl rfl, D, rfl, aft_done HOB.out hD hK hxs hI⟩
      case stop =>
        rintro D c pre W hD hpre hI hK
        obtain ⟨hX, rfl⟩ := aft_stop HOB.out hD hK hpre hI
        gi_wp2
        all_goals exact ⟨.inr rfl, D, rfl, hX⟩
      case body =>
        rintro l pre x A W hA hbA ⟨M', hLp, hdat, hen⟩ hlt
        have hLP := hLp
        obtain ⟨O', P', F', hn', emb, epc⟩ := hLp
        have hlr : pre.length < 1024 := by have := runM_len L.first L.cs; rw [List.length_map] at hlen; omega
        obtain ⟨c1, c2, c3, c4, c5, c6, c7⟩ := choseAll_len M.dat (pre.map fun x => datR x.1)
        rw [← hdat] at c1 c2 c3 c4 c5 c6 c7
        rw [List.length_map] at c2 c3 c4
        have hnod : M'.nodes = M.nodes := c6
        have hroM : ¬ Mine i ro := fun hh => HP3.out.me hh.1.symm
        have hbb' := F'.hp HN3.out (by rw [HO3.out]; exact hroM)
        obtain ⟨y, hy1, hy2, hy3⟩ := runM_mem x.2
        obtain ⟨RB3, RI3⟩ := HLO.out.val y hy1 hy2
        rw [hy3] at RB3 RI3
        have RB := RB3.fr F'
        have RI := RI3.fr F'
        have p0 := (blk1 hbb').1
        have p1 : W.cell? ⟨pb, 1, none⟩ = some (.int .i64 M'.nodes) := (kit.blk P'.blk).1 1
        rw [hnod] at p1
        obtain ⟨g0, g1, -, -, gz⟩ := blk2 hbA
        have hdr : Below W.heap.size W W.drew := below_drewN (Below.refl _ W) 1
        have HEN := Lib.hid (bal.enough_any M.nodes x.1.2.2.l x.1.2.2.a x.1.2.2.c W.drew (by have := RI.len; omega) (RI.lie.below hdr))
        have HDR := Lib.hid hdr
        have HLP := Lib.hid hLP
        have HDA := Lib.hid (And.intro hdat hen)
        have HPW := Lib.hid P'
        have HFW := Lib.hid F'
        have HNW := Lib.hid hn'
        have HBX := Lib.hid hbb'
        have HBA := Lib.hid hbA
        have HRB := Lib.hid RB
        have HEE := Lib.hid (And.intro emb epc)
        have HCC := Lib.hid (And.intro c1 (And.intro c2 (And.intro c3 (And.intro c4 (And.intro c5 c7)))))
        clear hLP P' F' hn' emb epc hdat hen hlt c1 c2 c3 c4 c5 c6 c7 hnod hroM hbb' hy1 hy2 hy3 RB3 RI3 RB RI hbA hdr y hf1 hf2 hlen
        simp only [List.setIfInBounds_toArray, List.set_cons_zero, List.set_cons_succ]
        gi_wp2
        refine wpIn_region_still_tail 6 (by kernel_rfl) (by kernel_rfl) (by kernel_rfl) ?_
        simp only [List.take_succ_cons, List.take_zero, List.drop_succ_cons, List.drop_zero]
        repeat still_step
        refine wpStill_nil ?_
        change wpListIn _ _ _ _ _ _ _ W.drew
        gi_wp2
        refine ⟨trivial, ?_⟩
        refine (callsIn_wide.2 HEN.out).mono ?_; rintro e wn ⟨rfl, hbn⟩
        have hbW := below_step HDR.out hbn
        have HBW := Lib.hid hbW
        clear hbn hbW
        cases hE : enoughB M.nodes x.1.2.2.l with
        | false =>
          have HX : Hid (KeepsFrom w3.heap.size W wn ∧ ∃ M', Lp w3 O i pb M wn M' ∧ AtX M _ (.exit 0) (pre ++ [x]) M') := by
            obtain ⟨k1, k2⟩ := lp_below HLP.out HBW.out
            exact ⟨k2, M', k1, rfl, pre, x, rfl, hE, HDA.out⟩
          clear hE
          gi_wp2
          exact HX.out
        | true =>
          obtain ⟨⟨O4, P4, F4, hn4, e1, e2⟩, kf⟩ := lp_below HLP.out HBW.out
          have hroM : ¬ Mine i ro := fun hh => HP3.out.me hh.1.symm
          obtain ⟨g0, g1, -, -, gz⟩ := blk2 (hp_step HBA.out HBW.out)
          have p0 := (blk1 (F4.hp HN3.out (by rw [HO3.out]; exact hroM))).1
          have HRN := HRB.out.below HBW.out
          obtain ⟨c1, c2, c3, c4, c5, c7⟩ := HCC.out
          have d1 : M'.index = M.index := c1
          have d2 : M'.en.l.length ≤ 1000000000 := by
            have h1 : (M'.en.l.map le).length = (M.en.l.map le).length + pre.length := c2
            rw [List.length_map, List.length_map] at h1
            have h2 := HG.out.en; have h3 := HG.out.i0
            have h4 : M.dat.entries.length = M.en.l.length := List.length_map _
            omega
          have d3 : M'.ch.l.length ≤ 1000000000 := by
            have h1 : (M'.ch.l.map le).length = (M.ch.l.map le).length + pre.length := c3
            rw [List.length_map, List.length_map] at h1
            have h2 := HG.out.ch
            have h4 : M.dat.chosen.length = M.ch.l.length := List.length_map _
            omega
          have d4 : M'.nt.l.length ≤ 1000000000 := by
            have h1 : (M'.nt.l.map NtM.dat).length = (M.nt.l.map NtM.dat).length + pre.length := c4
            rw [List.length_map, List.length_map] at h1
            have h2 := HG.out.nt
            have h4 : M.dat.notes.length = M.nt.l.length := List.length_map _
            omega
          have d5 : ∃ z, M'.ob = some z := by
            have h1 : (M'.ob.map fun z => z.2.dat).isSome = (M.ob.map fun z => z.2.dat).isSome := c7
            rw [Option.isSome_map, Option.isSome_map, HOB.out] at h1
            exact Option.isSome_iff_exists.1 h1
          have HCH := Lib.hid (pec.chosen_ok wn O4 i pb M' x.1.1 x.1.2.1 P4 HRN (by rw [d1]; exact HCI.out) d2 d3 d4 (fun _ => d5))
          have HFI : Hid (∀ W' M2, pec.Chose M' x.1.1 x.1.2.1.l M2 → Behind wn O4 i pb (Mine i) W' M2 → KeepsFrom w3.heap.size W W' ∧ Between w2.heap.size w3.heap.size W W' ∧ ∃ M2, Lp w3 O i pb M W' M2 ∧ AtI M _ (pre ++ [x]) M2) := by
            intro W' M2 hch hB
            obtain ⟨m1, m2⟩ := chose_mb hch
            obtain ⟨k1, k2, k3⟩ := lp_round (M := M') HP3.out F4 hn4 hB (m1.trans e1) (m2.trans e2)
            refine ⟨kf.trans k2, (Between.of_below HBW.out HFW.out.size).trans (k3 w2.heap.size (fun k hk => (PeerAt.below HP1.out HB2.out).clean k hk)), M2, k1, ?_, ?_⟩
            · rw [pec.chose_dat hch, HDA.out.1, List.map_append, List.map_singleton, choseAll_snoc]; rfl
            · intro z hz
              rcases List.mem_append.1 hz with hz | hz
              · exact HDA.out.2 z hz
              · rw [List.mem_singleton.1 hz]; exact hE
          clear hE P4 F4 hn4 e1 e2 kf hroM HRN c1 c2 c3 c4 c5 c7 d1 d2 d3 d4 d5
          gi_wp2
          refine ⟨trivial, ?_⟩
          refine (callsIn_wide.2 HCH.out).mono ?_; rintro e W' ⟨rfl, M2, hch, hB⟩
          have HX := Lib.hid (HFI.out W' M2 hch hB)
          clear hch hB
          gi_wp2
          exact HX.out
    · rintro D W ⟨hD, hK, M', hLp, hdat⟩
      obtain ⟨O', P', F', hn', emb, epc⟩ := hLp
      have hopn : M.dat.opn = some L.dat := by show M.ob.map (fun x => x.2.dat) = _; rw [HOB.out]; rfl
      have hfs : L.dat.first = M.dat.commit + 1 := by
        obtain ⟨L', k1, k2⟩ := HG.out.opn HL.out
        rw [hopn] at k1
        rw [Option.some.inj k1]; exact k2
      obtain ⟨wt1, wt2⟩ := wins_take M.dat L.dat hopn
      obtain ⟨g1, g2, g3, g4, g5, g6⟩ := choseAll_good L.dat.cells M.dat M.dat.wins.length HG.out HL.out L.dat hopn hfs rfl wt2
      rw [← wt1, ← hdat] at g1 g2 g3 g4 g5 g6
      have hroM : ¬ Mine i ro := fun hh => HP3.out.me hh.1.symm
      have hbb' := F'.hp HN3.out (by rw [HO3.out]; exact hroM)
      have p0 := (blk1 hbb').1
      have pz := (kit.blk P'.blk).2.2
      obtain ⟨C2, hC2⟩ : ∃ C2, C2 = M'.index + (M'.en.l.length : Int) := ⟨_, rfl⟩
      have hcm : M'.dat.commit = C2 := by rw [hC2]; show M'.index + ((M'.en.l.map le).length : Int) = _; rw [List.length_map]
      have hcm1 : M.dat.commit = C := by rw [HC.out]; show M.index + ((M.en.l.map le).length : Int) = _; rw [List.length_map]
      have hi' : M'.index = M.index := by
        have := (choseAll_len M.dat M.dat.wins).1
        rw [← hdat] at this; exact this
      have hel : M'.en.l.length ≤ 1000000000 := by
        have h1 := g1.en; have h2 := g1.i0
        have h3 : M'.dat.entries.length = M'.en.l.length := List.length_map _
        omega
      have HCO2 := Lib.hid (commit_ok W O' i pb M' P' (by rw [hi']; exact HCI.out) (by omega))
      rw [← hC2] at HCO2
      have HDT := Lib.hid hdat
      have HPW := Lib.hid P'
      have HFW := Lib.hid F'
      have HNW := Lib.hid hn'
      have HBX := Lib.hid hbb'
      have HK := Lib.hid hK
      have HDD := Lib.hid hD
      have HGG := Lib.hid (And.intro g1 (And.intro g2 (And.intro g4 g5)))
      have HCM := Lib.hid (And.intro hcm hcm1)
      have FIN : Hid (∀ (W9 : World) (M9 : PM), Behind W O' i pb (Mine i) W9 M9 → M9.dat = PD.advance (n + 1) M.dat → W9.heap[D]? = some (.deferred (some [])) ∧ Post w O i pb (PD.advance (n + 1) M.dat) (.returned (.tuple #[])) (W9.putObj D (.deferred none))) := by
        rintro W9 M9 ⟨O9, P9, F9⟩ hd9
        have hDro : O' D = ro := hn' D _ hD hK rfl
        have hDz := (Array.getElem?_eq_some_iff.1 hK).1
        have hK9 : W9.heap[D]? = some (.deferred (some [])) := F9.hp hK (by rw [hDro]; exact hroM)
        obtain ⟨P10, F10⟩ := PeerAt.turn P9 (grownBy_putObj' W9 D (.deferred none)) (by rw [F9.own D hDz]; exact hDro) hK9 rfl
        refine ⟨hK9, rfl, M9, hd9, O9, P10, ?_⟩
        have F09 : Fr (Mine i) w O W9 O9 := (Fr.of_below HP.out.clean HB1.out).trans ((Fr.of_below HP1.out.clean HB13.out).trans (F'.trans F9))
        have hg := grownBy_putObj' W9 D (.deferred none)
        have hDw : w.heap.size ≤ D := by have h1 := HB1.out.size; have h2 := HB13.out.size; omega
        exact ⟨hg.os.trans F09.os, hg.tape.trans F09.tape, hg.output.trans F09.output, Nat.le_trans F09.size hg.size, F09.own, fun k hk hs => (hg.block k (Nat.lt_of_lt_of_le hk F09.size) (fun e => by have := Option.some.inj e; omega)).trans (F09.same k hk hs), F09.byt.trans F10.byt, F10.clean⟩
      clear P' F' hn' emb epc hbb' hK hD hdat g1 g2 g3 g4 g5 g6 wt1 wt2 hopn hfs hcm hcm1 hi' hel hC2 hroM hf1 hf2 hlen hs23
      by_cases hc : C < C2
      · have t1 : decide (C < C2) = true := decide_eq_true hc
        have z38 : W.cell? ⟨pb, 38, none⟩ = some (.slice M'.td.a M'.td.l.length M'.td.c) := (kit.blk HPW.out.blk).1 38
        have htl : M'.dat.todo.length = M'.td.l.length := List.length_map _
        obtain ⟨tn, htn⟩ : ∃ tn, tn = M'.td.l.length := ⟨_, rfl⟩
        rw [← htn] at z38 htl
        have LC2 : Hid (∀ W4, Below W.heap.size W W4 → W4.cell? ⟨bb, 0, none⟩ = some (.pointer (some ⟨pb, 0, none⟩)) ∧ W4.cell? ⟨pb, 38, none⟩ = some (.slice M'.td.a tn M'.td.c) ∧ pb < W4.heap.size) := fun W4 hb4 => ⟨cell_step p0 hb4, cell_step z38 hb4, Nat.lt_of_lt_of_le pz hb4.size⟩
        by_cases ht : 0 < tn
        · have hd : PD.advance (n + 1) M.dat = PD.propose n M'.dat := by
            rw [adv_lead n HL.out, ← HDT.out, if_pos ⟨by rw [HCM.out.1, HCM.out.2]; exact hc, by rw [htl]; exact ht⟩]
          obtain ⟨k1, k2, k3, k4⟩ := HGG.out
          have hwf : 2 * M'.dat.wt + 2 ≤ n := by
            have h1 := HWT.out
            have h2 := HCM.out.1
            have h3 := HCM.out.2
            omega
          have HPP : Hid (∀ W4, Below W.heap.size W W4 → Calls Tryz.prog 16 #[.pointer (some ⟨pb, 0, none⟩)] W4 (Post W4 O' i pb (PD.propose n M'.dat))) := fun W4 hb4 => HPRO.out W4 O' i pb M' (PeerAt.below HPW.out hb4) k1 k2 hwf
          have HD := Lib.hid hd
          clear hd hc hwf k1 k2 k3 k4 htn htl z38
          go_wp2_with (first | (go_at_call 12; refine HCO2.out.mono ?_; rintro e W4 ⟨rfl, hb4⟩; have HB4 := Lib.hid hb4; obtain ⟨y0, y38, yz⟩ := LC2.out W4 hb4; clear hb4) | (go_at_call 16; refine (HPP.out W4 HB4.out).mono ?_; rintro e W9 ⟨rfl, M9, hd9, hB9⟩; have HD9 := Lib.hid hd9; have HB9 := Lib.hid hB9; clear hd9 hB9))
          obtain ⟨O9, P9, F9⟩ := HB9.out
          obtain ⟨h1, h2⟩ := FIN.out W9 M9 ⟨O9, P9, (Fr.of_below HPW.out.clean HB4.out).trans F9⟩ (by rw [HD9.out, HD.out])
          refine ⟨by simp, .inl ⟨_, _, rfl, run_takeDeferred h1, ?_⟩⟩
          exact ⟨.tuple #[], by simp [results, Tryz.results35, go_sem], rfl, h2.2⟩
        · obtain rfl : tn = 0 := by omega
          have hd : M'.dat = PD.advance (n + 1) M.dat := by
            rw [adv_lead n HL.out, ← HDT.out, if_neg (fun hh => by have := hh.2; omega)]
          have HD := Lib.hid hd
          clear hd hc htn htl z38
          go_wp2_with (go_at_call 12; refine HCO2.out.mono ?_; rintro e W4 ⟨rfl, hb4⟩; have HB4 := Lib.hid hb4; obtain ⟨y0, y38, yz⟩ := LC2.out W4 hb4; clear hb4)
          obtain ⟨h1, h2⟩ := FIN.out W4 M' ⟨O', PeerAt.below HPW.out HB4.out, Fr.of_below HPW.out.clean HB4.out⟩ HD.out
          refine ⟨by simp, .inl ⟨_, _, rfl, run_takeDeferred h1, ?_⟩⟩
          exact ⟨.tuple #[], by simp [results, Tryz.results35, go_sem], rfl, h2.2⟩
      · have t1 : decide (C < C2) = false := decide_eq_false hc
        have hd : M'.dat = PD.advance (n + 1) M.dat := by
          rw [adv_lead n HL.out, ← HDT.out, if_neg (fun hh => hc (by rw [← HCM.out.1, ← HCM.out.2]; exact hh.1))]
        have HD := Lib.hid hd
        clear hd hc
        go_wp2_with (go_at_call 12; refine HCO2.out.mono ?_; rintro e W4 ⟨rfl, hb4⟩; have HB4 := Lib.hid hb4; clear hb4)
        obtain ⟨h1, h2⟩ := FIN.out W4 M' ⟨O', PeerAt.below HPW.out HB4.out, Fr.of_below HPW.out.clean HB4.out⟩ HD.out
        refine ⟨by simp, .inl ⟨_, _, rfl, run_takeDeferred h1, ?_⟩⟩
        exact ⟨.tuple #[], by simp [results, Tryz.results35, go_sem], rfl, h2.2⟩
/-- propose and advance, however deep they call each other. -/
theorem both_ok (n : Nat) : AdvOk n ∧ ProOk n := by
  induction n with
  | zero => exact ⟨fun w O i pb M _ _ h => absurd h (by omega), fun w O i pb M _ _ _ h => absurd h (by omega)⟩
  | succ n ih => exact ⟨advance_step n ih.2, propose_step n ih.1⟩
theorem fuel_wt (P : PD) : P.fuel = 2 * P.wt + 4 := rfl
theorem propose_ok (w : World) (O : Owners) (i pb : Nat) (M : PM) (h : PeerAt w O i pb M) (hg : PdOk M.dat) (hl : M.leads = true) : Calls Tryz.prog 16 #[.pointer (some ⟨pb, 0, none⟩)] w (Post w O i pb (PD.propose M.dat.fuel M.dat)) :=
  (both_ok _).2 w O i pb M h hg hl (by rw [fuel_wt]; omega)
theorem advance_ok (w : World) (O : Owners) (i pb : Nat) (M : PM) (h : PeerAt w O i pb M) (hg : PdOk M.dat) : Calls Tryz.prog 35 #[.pointer (some ⟨pb, 0, none⟩)] w (Post w O i pb (PD.advance M.dat.fuel M.dat)) :=
  (both_ok _).1 w O i pb M h hg (by rw [fuel_wt]; omega)
end Go.Proofs.YtcaakiaenfkeaaaGreat.pead
/-
  elect as data: what a new leader has to propose; that it is in order (no memory).
-/
namespace Go.Proofs.YtcaakiaenfkeaaaGreat.pep
open Go.Proofs.YtcaakiaenfkeaaaGreat.accd Go.Proofs.YtcaakiaenfkeaaaGreat.accb Go.Proofs.YtcaakiaenfkeaaaGreat.acce Go.Proofs.YtcaakiaenfkeaaaGreat.acch Go.Proofs.YtcaakiaenfkeaaaGreat.chp Go.Proofs.YtcaakiaenfkeaaaGreat.chq
open Go.Proofs.YtcaakiaenfkeaaaGreat.byt (Byt)
open Go.Proofs.YtcaakiaenfkeaaaGreat.bal (enoughB)
set_option linter.unusedVariables false
set_option linter.unusedSimpArgs false

theorem stp_mem (F : List (Int × V)) (z : Int × Int × List Nat) : (F.foldl stp z).2.2 = z.2.2 ∨ ∃ x ∈ F, x.2.d = (F.foldl stp z).2.2 := by
  induction F generalizing z with
  | nil => exact .inl rfl
  | cons x F ih =>
    rw [List.foldl_cons]
    rcases ih (stp z x) with h | ⟨y, hy, h⟩
    · rw [h]
      unfold stp
      split
      · exact .inr ⟨x, by simp, rfl⟩
      · exact .inl rfl
    · exact .inr ⟨y, by simp [hy], h⟩
theorem valS_byt {l : List Pr} {s : Int} (h : ∀ p ∈ l, ∀ v ∈ p.vs, Byt v.d) : Byt (valS l s) := by
  unfold valS
  rcases stp_mem (forS l s) (0, 0, []) with e | ⟨x, hx, e⟩
  · rw [e]; intro y hy; simp at hy
  · rw [← e]
    unfold forS at hx
    obtain ⟨n, -, hx⟩ := List.mem_flatMap.1 hx
    obtain ⟨p, hp, hx⟩ := List.mem_flatMap.1 hx
    unfold at_ at hx
    obtain ⟨v, hv, rfl⟩ := List.mem_map.1 hx
    exact h p (List.mem_filter.1 hp).1 v (List.mem_filter.1 hv).1
theorem openL_in {nodes from_ : Int} {l : List Pr} : ∀ x ∈ openL nodes from_ l, from_ ≤ x.1 ∧ x.1 < from_ + 1024 ∧ ∃ s, x.2 = valS l s := by
  intro x hx
  unfold openL at hx
  split at hx
  · rename_i h0
    unfold ents at hx
    obtain ⟨k, hk, rfl⟩ := List.mem_map.1 hx
    have hk := List.mem_range.1 hk
    unfold openE at h0
    split at h0
    · simp at h0
    · split at h0
      · simp at h0
      · split at h0
        · simp at h0
        · split at h0
          · simp at h0
          · unfold openN at hk
            exact ⟨by dsimp only; omega, by dsimp only; omega, _, rfl⟩
  · simp at hx
theorem openL_len (nodes from_ : Int) (l : List Pr) : (openL nodes from_ l).length ≤ 1024 := by
  unfold openL
  split
  · rename_i h0
    rw [ents_len]
    unfold openE at h0
    split at h0
    · simp at h0
    · split at h0
      · simp at h0
      · split at h0
        · simp at h0
        · split at h0
          · simp at h0
          · unfold openN; omega
  · simp
/-- The new leader ahead of its first proposals. -/
def PD.lead (P : PD) : PD :=
  { P with leads := true, taken := 0, opn := some ⟨min (max (P.commit + 1) 1) farI, []⟩, todo := openL P.nodes (P.commit + 1) P.proms, next := P.commit + 1 + (openL P.nodes (P.commit + 1) P.proms).length }
structure Slim (P : PD) : Prop where
  en : P.index + P.entries.length ≤ 800000000
  ch : P.chosen.length ≤ 800000000
  nt : P.notes.length ≤ 800000000
  lt : P.letters.length ≤ 800000000
/-- The bytes of the promises. -/
def BytP (P : PD) : Prop := ∀ i, ∀ v ∈ (P.prom i).votes, Byt v.l
theorem lead_ok {P : PD} (h : PdOk P) (hs : Slim P) (hb : BytP P) : PdOk P.lead := by
  have hl := openL_len P.nodes (P.commit + 1) P.proms
  have h0 := h.i0
  have hc : P.commit = P.index + P.entries.length := rfl
  have h1 := hs.en; have h2 := hs.ch; have h3 := hs.nt; have h4 := hs.lt
  have hq : P.lead.qt = 12 * (openL P.nodes (P.commit + 1) P.proms).length := by
    unfold PD.qt PD.filled PD.lead; simp [filledL]
  have hbp : ∀ p ∈ P.proms, ∀ v ∈ p.vs, Byt v.d := by
    intro p hp v hv
    unfold PD.proms at hp
    obtain ⟨i, -, rfl⟩ := List.mem_map.1 hp
    dsimp only at hv
    obtain ⟨u, hu, rfl⟩ := List.mem_map.1 hv
    split at hu
    · exact h.bya u hu
    · exact hb i u hu
  refine ⟨h0, ?_, ?_, ?_, ?_, h.fst, fun _ => ⟨_, rfl, ?_⟩, h.nod, fun e he => ?_, fun e he => ?_, h.bya⟩
  · show P.index + P.entries.length + _ ≤ _; rw [hq]; omega
  · show P.chosen.length + _ ≤ _; rw [hq]; omega
  · show P.notes.length + _ ≤ _; rw [hq]; omega
  · show P.letters.length + _ ≤ _; rw [hq]; omega
  · show min (max (P.commit + 1) 1) farI = P.commit + 1
    unfold farI; omega
  · have := openL_in e he; omega
  · obtain ⟨-, -, s, e2⟩ := openL_in e he
    rw [e2]; exact valS_byt hbp
theorem elect_no {P : PD} (h : P.candidate = false) : P.elect = P := by unfold PD.elect; rw [if_pos h]
theorem elect_few {P : PD} (h : P.candidate = true) (h2 : enoughB P.nodes (P.who.map fun i : Nat => (i : Int)) = false) : P.elect = P := by unfold PD.elect; rw [if_neg (by rw [h]; simp), if_pos h2]
theorem elect_ask {P : PD} (h : P.candidate = true) (h2 : enoughB P.nodes (P.who.map fun i : Nat => (i : Int)) = true) (h3 : P.behind ≠ 0) : P.elect = P.ask P.behind := by unfold PD.elect; rw [if_neg (by rw [h]; simp), if_neg (by rw [h2]; simp), if_pos h3]
theorem elect_err {P : PD} (h : P.candidate = true) (h2 : enoughB P.nodes (P.who.map fun i : Nat => (i : Int)) = true) (h3 : P.behind = 0) (h4 : openE P.nodes (P.commit + 1) P.proms ≠ 0) : P.elect = P := by unfold PD.elect; rw [if_neg (by rw [h]; simp), if_neg (by rw [h2]; simp), if_neg (by rw [h3]; simp), if_pos h4]
theorem elect_yes {P : PD} (h : P.candidate = true) (h2 : enoughB P.nodes (P.who.map fun i : Nat => (i : Int)) = true) (h3 : P.behind = 0) (h4 : openE P.nodes (P.commit + 1) P.proms = 0) : P.elect = PD.propose P.lead.fuel P.lead := by unfold PD.elect; rw [if_neg (by rw [h]; simp), if_neg (by rw [h2]; simp), if_neg (by rw [h3]; simp), if_neg (by rw [h4]; simp)]; rfl
/-- A member that may draw. -/
structure MayDraw (P : PD) : Prop where
  i0 : 0 ≤ P.index
  fst : P.A.first = P.commit + 1
  nod : 0 ≤ P.nodes ∧ P.nodes ≤ 5
  bya : ∀ v ∈ P.A.vs, Byt v.l
  en : P.index + P.entries.length ≤ 700000000
  ch : P.chosen.length ≤ 700000000
  nt : P.notes.length ≤ 700000000
  lt : P.letters.length ≤ 700000000
theorem calm_of {P : PD} (h : PdOk P) (h1 : P.index + P.entries.length ≤ 700000000) (h2 : P.chosen.length ≤ 700000000) (h3 : P.notes.length ≤ 700000000) (h4 : P.letters.length ≤ 700000000) : MayDraw P := ⟨h.i0, h.fst, h.nod, h.bya, h1, h2, h3, h4⟩
theorem prepS_first (A : AS) (r n : Int) : (prepS A r n).first = A.first := by unfold prepS; split <;> rfl
theorem prepS_vs (A : AS) (r n : Int) : (prepS A r n).vs = A.vs := by unfold prepS; split <;> rfl
/-- A candidate ahead of its letters. -/
def PD.cand0 (P : PD) : PD :=
  let b := P.nextBal
  let Q : PD := ({ P.rest with own := b, seen := b, A := prepS P.A b.1 b.2 } : PD).note (.prom b)
  { Q with prom := fun i => ⟨decide ((i : Int) = P.node), P.commit + 1, 0, []⟩ }
theorem draw_eq (P : PD) : P.draw = (P.cand0.others { lt0 with kind := 1, b := P.nextBal, slot := P.commit + 1 }).elect := rfl
theorem others_eq (P : PD) (l : Lt) : ∃ X : List Lt, X.length ≤ P.nodes.toNat ∧ P.others l = { P with letters := P.letters ++ X } := by
  unfold PD.others
  generalize P.nodes.toNat = n
  induction n with
  | zero => exact ⟨[], by simp, by simp [upTo]⟩
  | succ k ih =>
    obtain ⟨X, h1, h2⟩ := ih
    rw [upTo_succ, List.foldl_append, h2]
    show ∃ X' : List Lt, X'.length ≤ k + 1 ∧ (if (k : Int) + 1 = ({ P with letters := P.letters ++ X } : PD).node then ({ P with letters := P.letters ++ X } : PD) else ({ P with letters := P.letters ++ X } : PD).tell ((k : Int) + 1) l) = _
    split
    · exact ⟨X, by omega, rfl⟩
    · exact ⟨X ++ [{ l with fr := P.node, dst := (k : Int) + 1 }], by simp; omega, by rw [← List.append_assoc]; rfl⟩
theorem cand_ok {P : PD} (h : MayDraw P) (l : Lt) : PdOk (P.cand0.others l) ∧ Slim (P.cand0.others l) ∧ BytP (P.cand0.others l) := by
  obtain ⟨X, hX, e⟩ := others_eq P.cand0 l
  have hn := h.nod
  have hX5 : X.length ≤ 5 := by
    have : P.cand0.nodes.toNat ≤ 5 := by show P.nodes.toNat ≤ 5; omega
    omega
  have h0 := h.i0; have h1 := h.en; have h2 := h.ch; have h3 := h.nt; have h4 := h.lt
  have hq : ({ P.cand0 with letters := P.cand0.letters ++ X } : PD).qt = 0 := rfl
  have el : ({ P.cand0 with letters := P.cand0.letters ++ X } : PD).letters.length = P.letters.length + X.length := by show (P.letters ++ X).length = _; rw [List.length_append]
  have en : ({ P.cand0 with letters := P.cand0.letters ++ X } : PD).notes.length = P.notes.length + 1 := by show (P.notes ++ [_]).length = _; simp
  rw [e]
  refine ⟨⟨h0, ?_, ?_, ?_, ?_, ?_, fun hh => absurd hh (by show ¬ false = true; simp), hn, fun x hx => by simp [PD.cand0, PD.note, PD.rest] at hx, fun x hx => by simp [PD.cand0, PD.note, PD.rest] at hx, ?_⟩, ⟨?_, ?_, ?_, ?_⟩, fun i v hv => ?_⟩
  · show P.index + P.entries.length + _ ≤ _; rw [hq]; omega
  · show P.chosen.length + _ ≤ _; rw [hq]; omega
  · rw [en, hq]; omega
  · rw [el, hq]; omega
  · show (prepS P.A _ _).first = P.commit + 1; rw [prepS_first]; exact h.fst
  · show ∀ v ∈ (prepS P.A _ _).vs, Byt v.l; rw [prepS_vs]; exact h.bya
  · show P.index + P.entries.length ≤ _; omega
  · show P.chosen.length ≤ _; omega
  · rw [en]; omega
  · rw [el]; omega
  · have : v ∈ ([] : List V4) := hv
    simp at this
end Go.Proofs.YtcaakiaenfkeaaaGreat.pep
/-
  An append to what is to be proposed, which is a slice that moves on along its block.
-/
namespace Go.Proofs.YtcaakiaenfkeaaaGreat.petd
open Go.ChangeShapes Go.WideShapes Go.ChangeAt Go.RowKit
open Go.Proofs.YtcaakiaenfkeaaaGreat.kit Go.Proofs.YtcaakiaenfkeaaaGreat.mapkit Go.Proofs.YtcaakiaenfkeaaaGreat.byt Go.Proofs.YtcaakiaenfkeaaaGreat.own Go.Proofs.YtcaakiaenfkeaaaGreat.accd Go.Proofs.YtcaakiaenfkeaaaGreat.accb Go.Proofs.YtcaakiaenfkeaaaGreat.acce Go.Proofs.YtcaakiaenfkeaaaGreat.chd Go.Proofs.YtcaakiaenfkeaaaGreat.che Go.Proofs.YtcaakiaenfkeaaaGreat.ownr Go.Proofs.YtcaakiaenfkeaaaGreat.pep Go.Proofs.YtcaakiaenfkeaaaGreat.peb Go.Proofs.YtcaakiaenfkeaaaGreat.pem Go.Proofs.YtcaakiaenfkeaaaGreat.pen Go.Proofs.YtcaakiaenfkeaaaGreat.pes Go.Proofs.YtcaakiaenfkeaaaGreat.pet Go.Proofs.YtcaakiaenfkeaaaGreat.pert
set_option linter.unusedVariables false
set_option linter.unusedSimpArgs false
set_option maxHeartbeats 4000000
set_option maxRecDepth 100000

theorem ent_still : ¬ Still 47 := by rintro (e | e) <;> exact absurd e (by decide)
/-- A row of one's own is a slice that has not moved on. -/
theorem todo_own {w : World} {O : Owners} {t : Tag} {base g c : Nat} {l : List Et} (h : w.ownsRow base 47 2 (.slice (some ⟨g, 0, none⟩) l.length c) l.length (l.flatMap Et.cells)) (ht : O g = t) (hb : ∀ e ∈ l, RoB w ⟨e.a, e.c, e.l⟩) : TodoAt w O t ⟨some ⟨g, 0, none⟩, c, l⟩ := by
  rcases h.2 with ⟨e', _⟩ | ⟨g', cap, cur, e', hg, hh, hn, hm, hz, hx⟩
  · simp at e'
  · simp only [Value.slice.injEq, Option.some.injEq, Addr.mk.injEq, and_true, true_and] at e'
    obtain ⟨rfl, rfl⟩ := e'
    have hcell := (kit.blk hh).1
    have hfro := (kit.blk hh).2.1
    refine ⟨⟨g, 0, ⟨hn, fun _ => rfl, fun _ => (kit.blk hh).2.2, h.1, fun j u hu => ?_, fun j hj => ?_⟩, fun g' o hg' => ?_⟩, hb⟩
    · rw [hcell (0 + j), Nat.zero_add]
      have hj : j < (l.flatMap Et.cells).length := (List.getElem?_eq_some_iff.1 hu).1
      rw [← hx, List.getElem?_take_of_lt (by rw [h.1] at hj; exact hj), Array.getElem?_toList] at hu
      exact hu
    · have hj2 : l.length * 2 + j < cur.size := by rw [hz, Nat.sub_mul] at *; dsimp only at hj; omega
      rw [hcell _, hfro _]
      refine ⟨?_, rfl⟩
      rw [Nat.zero_add, Array.getElem?_eq_getElem hj2]; rfl
    · simp only [Option.some.injEq, Addr.mk.injEq] at hg'
      obtain ⟨rfl, -, -⟩ := hg'
      exact ⟨ht, cur, hh⟩
theorem infoEnt : (Tryz.prog.info? 47).map (fun i => (i.zero, i.size, i.bytes)) = some (some (.agg #[.int .i64 0, .slice none 0 0]), 2, 32) := by kernel_rfl
theorem run_append_todo {w : World} {O : Owners} {t : Tag} {s : Sl Et} {e : Et} (ty : TypeId) (h : TodoAt w O t s) (hcl : ownr.Clean w O) (ad : Addr) (c : Nat) (hx : Lie w (some ad) e.cells) (hb : RoB w ⟨e.a, e.c, e.l⟩) (hmax : s.l.length ≤ 1000000000) :
    ∃ (a' : Option Addr) (c' : Nat) (w' : World), (Builtin.append_ #[31, 31] ty #[.slice s.a s.l.length s.c, .slice (some ad) 1 c]).run Tryz.prog w = .ok (.slice a' (s.l.length + 1) c') w' ∧ ∃ O', TodoAt w' O' t ⟨a', c', s.l ++ [e]⟩ ∧ Fr (fun x => x = t) w O w' O' := by
  obtain ⟨sa, sc, sl⟩ := s
  obtain ⟨i, hi, hz, hsz, hby⟩ := info_parts infoEnt
  obtain ⟨⟨b, off, hc, ht⟩, hbd⟩ := h
  dsimp only at hmax hc ht hbd ⊢
  have hfm : (sl ++ [e]).flatMap Et.cells = sl.flatMap Et.cells ++ e.cells := by simp [List.flatMap_append]
  have hbd' : ∀ x ∈ sl ++ [e], RoB w ⟨x.a, x.c, x.l⟩ := fun x hx => by
    rcases List.mem_append.1 hx with hx | hx
    · exact hbd x hx
    · rw [List.mem_singleton.1 hx]; exact hb
  by_cases hr : sl.length + 1 ≤ sc
  · have ha : sa = some ⟨b, off, none⟩ := hc.addr (by omega)
    subst ha
    obtain ⟨htag, cs, hcs⟩ := ht b off rfl
    have hs1 : ∀ j, j < e.cells.length → (w.cell? ⟨b, off + sl.length * 2 + j, none⟩).isSome = true := fun j hj => (hc.spare j (by rw [ecells_len] at hj; omega)).1
    have hs2 : ∀ j, j < e.cells.length → w.frozen? ⟨b, off + sl.length * 2 + j, none⟩ = false := fun j hj => (hc.spare j (by rw [ecells_len] at hj; omega)).2
    have hrun := run_append_room_cells (P := Tryz.prog) (w := w) 31 ty 47 i Tryz.underlying31 hi b off sl.length sc ad 1 c e.cells (by rw [hsz]; rfl) (lie_adds hx) (by simp [Et.cells, Value.oneCell']) hr (by rw [hsz]; exact hs1) (by rw [hsz]; exact hs2)
    rw [hsz] at hrun
    obtain ⟨F, hblk⟩ := fr_setCells (S := fun x => x = t) (w := w) (O := O) (O' := O) (T := 47) (b := b) (.inr htag) ent_still e.cells (off + sl.length * 2) w _ (Fr.refl _ hcl) hcs
    refine ⟨_, _, _, hrun, O, ⟨⟨b, off, ⟨by simpa using hr, fun _ => rfl, fun _ => Nat.lt_of_lt_of_le (hc.lt (by omega)) F.size, by rw [hfm, List.length_append, hc.oldsLen, ecells_len]; simp; omega, fun j u hu => ?_, fun j hj => ?_⟩, fun g o hg => ?_⟩, fun x hx => (hbd' x hx).fr F⟩, F⟩
    · rw [hfm] at hu
      have hol := hc.oldsLen
      by_cases hj : j < (sl.flatMap Et.cells).length
      · rw [List.getElem?_append_left hj] at hu
        rw [World.cell?_setCells_out b _ _ _ _ (fun _ _ => .inl (by dsimp only; omega))]
        exact hc.olds j u hu
      · rw [List.getElem?_append_right (by omega)] at hu
        have hj2 : j - (sl.flatMap Et.cells).length < e.cells.length := (List.getElem?_eq_some_iff.1 hu).1
        have := World.cell?_setCells_in b e.cells (off + sl.length * 2) w hs1 _ hj2
        rw [List.getElem?_eq_getElem hj2] at hu
        rw [show off + sl.length * 2 + (j - (sl.flatMap Et.cells).length) = off + j by omega] at this
        rw [this]; exact hu
    · dsimp only [List.length_append, List.length_singleton] at hj ⊢
      have hj' : j + 2 < (sc - sl.length) * 2 := by simp only [List.length_append, List.length_singleton] at hj; omega
      have := hc.spare (j + 2) hj'
      rw [World.frozen?_setCells, World.cell?_setCells_out b _ _ _ _ (fun _ _ => .inr (by dsimp only; rw [ecells_len, List.length_append, List.length_singleton]; omega))]
      rw [show off + (sl ++ [e]).length * 2 + j = off + sl.length * 2 + (j + 2) by rw [List.length_append, List.length_singleton]; omega]
      exact this
    · simp only [Option.some.injEq, Addr.mk.injEq] at hg
      obtain ⟨rfl, -, -⟩ := hg
      exact ⟨htag, _, hblk⟩
  · have hle : sl.length ≤ sc := hc.le
    have hfin : ∀ (v' : Value) (w' : World), w'.ownsRow w.heap.size 47 2 v' (sl.length + 1) (sl.flatMap Et.cells ++ e.cells) → w.grownBy w' none → ∃ a' c', v' = .slice a' (sl.length + 1) c' ∧ ∃ O', TodoAt w' O' t ⟨a', c', sl ++ [e]⟩ ∧ Fr (fun x => x = t) w O w' O' := by
      intro v' w' ho hg
      obtain ⟨a', c', rfl⟩ := own_shape ho
      obtain ⟨g, rfl⟩ := own_ptr ho (by omega)
      have hgz := own_from ho g rfl
      have F : Fr (fun x => x = t) w O w' O := ⟨hg.os, hg.tape, hg.output, hg.size, fun _ _ => rfl, fun k hk _ => hg.block k hk (by simp), fun k cs T _ hk => (hg.block k (kit.blk hk).2.2 (by simp)).trans hk, hcl.more hg.size⟩
      have F2 := F.claim t hgz.1 hgz.2
      refine ⟨_, _, rfl, O.put g t, todo_own (base := w.heap.size) (by rw [List.length_append, List.length_singleton, hfm]; exact ho) (put_self _ _ _) (fun x hx => (hbd' x hx).fr F), F2⟩
    cases sa with
    | none =>
      have h0 : sc = 0 := by
        rcases Nat.eq_zero_or_pos sc with h0 | h0
        · exact h0
        · exact absurd (hc.addr h0) (by simp)
      have hl0 : sl = [] := List.eq_nil_of_length_eq_zero (by omega)
      subst h0 hl0
      obtain ⟨v', w', hrun, r1, r2, _⟩ := run_append_own (P := Tryz.prog) w w.heap.size 31 ty 47 i _ 2 32 Tryz.underlying31 hi hz hsz hby rfl (by decide) (.slice none 0 0) 0 [] (World.ownsRow_nil w _ _ _) ad 1 c e.cells rfl (lie_adds hx) (by simp [Et.cells, Value.oneCell']) (by decide) (by decide) (Nat.le_refl _)
      obtain ⟨a', c', rfl, hO⟩ := hfin v' w' r1 r2
      exact ⟨a', c', w', hrun, hO⟩
    | some sa =>
      obtain ⟨v', w', hrun, r1, r2⟩ := run_append_arg_grows (P := Tryz.prog) (w := w) 31 ty 47 i _ 2 32 Tryz.underlying31 hi hz hsz hby rfl (by decide) sa sl.length sc (sl.flatMap Et.cells) hc.oldsLen (fun j u hu => by
        have hj : j < (sl.flatMap Et.cells).length := (List.getElem?_eq_some_iff.1 hu).1
        have hpos : 0 < sc := by have := hc.oldsLen; omega
        have e2 := hc.addr hpos
        obtain rfl := Option.some.inj e2
        rw [Addr.add_lit]; exact hc.olds j u hu) ad 1 c e.cells rfl (lie_adds hx) (by omega) (by unfold maxLen; omega) (by omega)
      obtain ⟨a', c', rfl, hO⟩ := hfin v' w' r1 r2
      exact ⟨a', c', w', hrun, hO⟩
/-- The same as one step of a region. -/
theorem step_append_todo {w : World} {ops : Array Oper} {o : Oper} {a : Act} {K : Act → World → Prop} {Q : Exit → Act → World → Prop} {E : Prop}
    (hg : o.guard = none) (sx x : Operand) (ho : o.op = Op.call { callee := Callee.builtin Builtin.append, args := #[sx, x], argTypes := #[31, 31] })
    {O : Owners} {t : Tag} {s : Sl Et} {e : Et} (h : TodoAt w O t s) (hcl : ownr.Clean w O) (ad : Addr) (c : Nat) (hs : a.eval sx = .slice s.a s.l.length s.c) (hx : a.eval x = .slice (some ad) 1 c) (hlie : Lie w (some ad) e.cells) (hb : RoB w ⟨e.a, e.c, e.l⟩) (hmax : s.l.length ≤ 1000000000)
    (hK : ∀ (a' : Option Addr) (c' : Nat) (w' : World) (O' : Owners), TodoAt w' O' t ⟨a', c', s.l ++ [e]⟩ → Fr (fun x => x = t) w O w' O' → K (a.put o.dst (.slice a' (s.l.length + 1) c')) w') :
    if Region.wanted o (yielded ops a.tmps) = true then Oper.wp Tryz.prog o a w K Q else E := by
  have hw : Region.wanted o (yielded ops a.tmps) = true := by simp [Region.wanted, hg]
  rw [if_pos hw]
  obtain ⟨a', c', w', hr, O', h1, h2⟩ := run_append_todo o.type h hcl ad c hlie hb hmax
  unfold Oper.wp execOp
  simp only [ho, resolve, invoke, builtin, Sem.run_bind, Sem.run_pure, Result.andThen_ok, List.map_toArray, List.map_cons, List.map_nil, hs, hx, hr]
  exact hK a' c' w' O' h1 h2
end Go.Proofs.YtcaakiaenfkeaaaGreat.petd
