/-
  ChooseSafe in memory: what a draw's struct is behind an append to its promises, behind the two stores of a leader, behind an append to its proposals; what Prepare tells.
-/
import Derived.Test.YtodoncmielfbeaaChSo
namespace Go.Proofs.Ytodoncmielfbeaa.chspp
open Go.ChangeShapes Go.WideShapes Go.ChangeAt Go.RowKit
open Go.Proofs.Ytodoncmielfbeaa.kit Go.Proofs.Ytodoncmielfbeaa.byt Go.Proofs.Ytodoncmielfbeaa.own Go.Proofs.Ytodoncmielfbeaa.accd Go.Proofs.Ytodoncmielfbeaa.accb Go.Proofs.Ytodoncmielfbeaa.acce Go.Proofs.Ytodoncmielfbeaa.acch Go.Proofs.Ytodoncmielfbeaa.chd Go.Proofs.Ytodoncmielfbeaa.che Go.Proofs.Ytodoncmielfbeaa.cho Go.Proofs.Ytodoncmielfbeaa.chv Go.Proofs.Ytodoncmielfbeaa.chw Go.Proofs.Ytodoncmielfbeaa.chsf Go.Proofs.Ytodoncmielfbeaa.chsm Go.Proofs.Ytodoncmielfbeaa.chsn
set_option linter.unusedVariables false
set_option linter.unusedSimpArgs false
set_option maxHeartbeats 1000000
set_option maxRecDepth 100000

/-- The blocks of a draw that may change. -/
def Own3 (u : Tw) (g : Nat) : Prop := g = u.tb ∨ u.a = some ⟨g, 0, none⟩ ∨ u.ea = some ⟨g, 0, none⟩
theorem own_set {w : World} {base : Nat} {T : TypeId} {size n c b : Nat} {a : Option Addr} {xs : List Value} {cs : Array Value} {T' : TypeId} (h : w.ownsRow base T size (.slice a n c) n xs) (hb : w.heap[b]? = some (.cells cs T' (0, 0))) (hT : T' ≠ T) (o : Nat) (v : Value) : (w.setCell ⟨b, o, none⟩ v).ownsRow base T size (.slice a n c) n xs :=
  own_kept h (fun g hg => hp_set_ne (own_ne h hb hT g hg))
theorem ownP_set {w : World} {base b : Nat} {q : Pt} {cs : Array Value} (h : OwnP w base q) (hb : w.heap[b]? = some (.cells cs 64 (0, 0))) (o : Nat) (v : Value) : OwnP (w.setCell ⟨b, o, none⟩ v) base q :=
  ⟨own_set h.row hb (by decide) o v, fun x hx => own_set (h.body x hx) hb (by decide) o v, h.fit, h.len, h.node⟩
theorem ownE_set {w : World} {base b c : Nat} {a : Option Addr} {es : List Et} {cs : Array Value} (h : OwnE w base a c es) (hb : w.heap[b]? = some (.cells cs 64 (0, 0))) (o : Nat) (v : Value) : OwnE (w.setCell ⟨b, o, none⟩ v) base a c es :=
  ⟨own_set h.row hb (by decide) o v, fun x hx => own_set (h.body x hx) hb (by decide) o v⟩
/-- A promise is appended. -/
theorem tw_promise {w w8 : World} {base : Nat} {u : Tw} {p : Pt} {a8 : Option Addr} {c8 : Nat} (h : TwAt w base u) (hp : OwnP w base p) (hk : Keep (fun g => u.a = some ⟨g, 0, none⟩) w w8)
    (hown : w8.ownsRow base 36 2 (.slice a8 (u.l.length + 1) c8) (u.l.length + 1) (pcells u.l ++ p.cells)) :
    w8.heap[u.tb]? = some (.cells u.cells 64 (0, 0)) ∧
    TwAt (w8.setCell ⟨u.tb, 2, none⟩ (.slice a8 (u.l.length + 1) c8)) base ⟨u.tb, u.r, u.n, a8, c8, u.l ++ [p], u.ea, u.ec, u.es, u.leads⟩ ∧ Keep (Own3 u) w (w8.setCell ⟨u.tb, 2, none⟩ (.slice a8 (u.l.length + 1) c8)) := by
  have K : Kept (fun T => T ≠ 36) w w8 := fun g cs T hT hg => hk.hp hg (fun hs => own_ne h.prs.row hg hT g hs rfl)
  have hb := K _ _ _ (by decide) h.blk
  have hc : Tw.cells ⟨u.tb, u.r, u.n, a8, c8, u.l ++ [p], u.ea, u.ec, u.es, u.leads⟩ = u.cells.setIfInBounds 2 (.slice a8 (u.l.length + 1) c8) := by
    simp only [Tw.cells, List.length_append, List.length_singleton]; rfl
  refine ⟨hb, ⟨by rw [hc]; exact hp_set hb 2 _, h.lo, ⟨?_, fun q hq => ?_⟩, ownE_set (ownE_to h.pro K (by decide) (by decide)) hb 2 _, h.fit⟩, ?_⟩
  · show World.ownsRow _ base _ 2 (.slice a8 (u.l ++ [p]).length c8) (u.l ++ [p]).length (pcells (u.l ++ [p]))
    rw [List.length_append, List.length_singleton, pcells_snoc]
    exact own_set hown hb (by decide) 2 _
  · rcases List.mem_append.1 hq with hq | hq
    · exact ownP_set (ownP_to (h.prs.own q hq) K (by decide) (by decide)) hb 2 _
    · rw [List.mem_singleton.1 hq]
      exact ownP_set (ownP_to hp K (by decide) (by decide)) hb 2 _
  · exact ((Keep.refl (Own3 u) w).trans' hk (fun g _ hs => .inr (.inl hs))).setCell (p := ⟨u.tb, 2, none⟩) (.inr (.inl rfl)) _
/-- A draw leads. -/
theorem tw_lead {w : World} {base : Nat} {u : Tw} {ea : Option Addr} {ec : Nat} {es : List Et} (h : TwAt w base u) (he : OwnE w base ea ec es) (hf : ∀ e ∈ es, e.l.length ≤ 140737488355328) :
    TwAt ((w.setCell ⟨u.tb, 4, none⟩ (.bool true)).setCell ⟨u.tb, 3, none⟩ (.slice ea es.length ec)) base ⟨u.tb, u.r, u.n, u.a, u.c, u.l, ea, ec, es, true⟩ ∧ Keep (Own3 u) w ((w.setCell ⟨u.tb, 4, none⟩ (.bool true)).setCell ⟨u.tb, 3, none⟩ (.slice ea es.length ec)) := by
  have hb1 := hp_set h.blk 4 (.bool true)
  refine ⟨⟨hp_set hb1 3 _, h.lo, ⟨own_set (own_set h.prs.row h.blk (by decide) 4 _) hb1 (by decide) 3 _, fun q hq => ownP_set (ownP_set (h.prs.own q hq) h.blk 4 _) hb1 3 _⟩, ownE_set (ownE_set he h.blk 4 _) hb1 3 _, hf⟩, ?_⟩
  exact ((Keep.refl (Own3 u) w).setCell (p := ⟨u.tb, 4, none⟩) (.inr (.inl rfl)) _).setCell (p := ⟨u.tb, 3, none⟩) (.inr (.inl rfl)) _
/-- A proposal is appended. -/
theorem tw_propose {w w8 : World} {base : Nat} {u : Tw} {e : Et} {a8 : Option Addr} {c8 : Nat} (h : TwAt w base u) (he : w.ownsRow base 5 1 (.slice e.a e.l.length e.c) e.l.length (bcells e.l)) (hf : e.l.length ≤ 140737488355328) (hk : Keep (fun g => u.ea = some ⟨g, 0, none⟩) w w8)
    (hown : w8.ownsRow base 39 2 (.slice a8 (u.es.length + 1) c8) (u.es.length + 1) (u.es.flatMap Et.cells ++ e.cells)) :
    w8.heap[u.tb]? = some (.cells u.cells 64 (0, 0)) ∧
    TwAt (w8.setCell ⟨u.tb, 3, none⟩ (.slice a8 (u.es.length + 1) c8)) base ⟨u.tb, u.r, u.n, u.a, u.c, u.l, a8, c8, u.es ++ [e], u.leads⟩ ∧ Keep (Own3 u) w (w8.setCell ⟨u.tb, 3, none⟩ (.slice a8 (u.es.length + 1) c8)) := by
  have K : Kept (fun T => T ≠ 39) w w8 := fun g cs T hT hg => hk.hp hg (fun hs => own_ne h.pro.row hg hT g hs rfl)
  have hb := K _ _ _ (by decide) h.blk
  have hc : Tw.cells ⟨u.tb, u.r, u.n, u.a, u.c, u.l, a8, c8, u.es ++ [e], u.leads⟩ = u.cells.setIfInBounds 3 (.slice a8 (u.es.length + 1) c8) := by
    simp only [Tw.cells, List.length_append, List.length_singleton]; rfl
  refine ⟨hb, ⟨by rw [hc]; exact hp_set hb 3 _, h.lo, ⟨own_set (own_to h.prs.row K (by decide)) hb (by decide) 3 _, fun q hq => ownP_set (ownP_to (h.prs.own q hq) K (by decide) (by decide)) hb 3 _⟩, ⟨?_, fun q hq => ?_⟩, fun x hx => ?_⟩, ?_⟩
  · show World.ownsRow _ base _ 2 (.slice a8 (u.es ++ [e]).length c8) (u.es ++ [e]).length ((u.es ++ [e]).flatMap Et.cells)
    rw [List.length_append, List.length_singleton, List.flatMap_append, List.flatMap_singleton]
    exact own_set hown hb (by decide) 3 _
  · rcases List.mem_append.1 hq with hq | hq
    · exact own_set (own_to (h.pro.body q hq) K (by decide)) hb (by decide) 3 _
    · rw [List.mem_singleton.1 hq]
      exact own_set (own_to he K (by decide)) hb (by decide) 3 _
  · rcases List.mem_append.1 hx with hx | hx
    · exact h.fit x hx
    · rw [List.mem_singleton.1 hx]; exact hf
  · exact ((Keep.refl (Own3 u) w).trans' hk (fun g _ hs => .inr (.inr hs))).setCell (p := ⟨u.tb, 3, none⟩) (.inr (.inl rfl)) _

theorem acc_fit {w : World} {base b mb : Nat} {A : AS} (h : AccIs w base b mb A) : (∀ v ∈ A.vs, v.l.length ≤ 2048 ∧ A.first ≤ v.s ∧ v.s < A.first + 16) ∧ 1 ≤ A.first ∧ A.first ≤ 1099511627776 ∧ A.vs.length ≤ 16 := by
  obtain ⟨vs, h, e⟩ := h
  rw [← e]
  refine ⟨fun v hv => ?_, h.one.1, h.one.2, by rw [List.length_map]; exact h.len⟩
  obtain ⟨x, hx, rfl⟩ := List.mem_map.1 hv
  exact ⟨h.fit x hx, h.rng x hx⟩
theorem from_all {A : AS} (h : ∀ v ∈ A.vs, A.first ≤ v.s) (h1 : A.first = 1) : from4 A.vs 1 = A.vs := by
  unfold from4
  refine List.filter_eq_self.2 (fun v hv => ?_)
  have := h v hv
  simp; omega
/-- Votes that are told are a promise of one's own. -/
theorem told_own {w w' : World} {base : Nat} {v : Value} {vs : List V4} {x : Int} (h : accc.Told w w' v vs) (hb : base ≤ w.heap.size) (hf : ∀ v ∈ vs, v.l.length ≤ 2048 ∧ Byt v.l ∧ (-9223372036854775808 ≤ v.s ∧ v.s ≤ 9223372036854775807)) (hl : vs.length ≤ 16) (hx : -9223372036854775808 ≤ x ∧ x ≤ 9223372036854775807) :
    ∃ (a : Option Addr) (c : Nat) (xs : List Vt), v = .slice a xs.length c ∧ xs.map lv = vs ∧ OwnP w' base ⟨x, xs, a, c⟩ := by
  obtain ⟨a, c, xs, e1, e2, e3, e4⟩ := h
  refine ⟨a, c, xs, e1, e2, own_mono e3 hb, fun y hy => own_mono (e4 y hy) hb, fun y hy => ?_, ?_, hx⟩
  · have h1 := hf (lv y) (by rw [← e2]; exact List.mem_map_of_mem hy)
    exact ⟨by have h2 : y.l.length ≤ 2048 := h1.1; omega, h1.2.1, h1.2.2⟩
  · have : xs.length = vs.length := by rw [← e2, List.length_map]
    show xs.length ≤ 2932031007402
    omega
theorem Dat.prep {N : Int} {As : List AS} {us : List Tw} {ch : List Et} (h : Dat N As us ch) {k : Nat} (hk : k < As.length) (r n : Int) : Dat N (As.set k (prepS As[k] r n)) us ch := by
  by_cases he : prepE As[k] r n = 0
  · have e : prepS As[k] r n = ⟨r, n, As[k].first, As[k].vs⟩ := by rw [prepS, if_pos he]
    rw [e]
    refine h.prepare hk ?_
    cases hl : acca.lessB r n As[k].r As[k].n with
    | false => rfl
    | true =>
      unfold prepE at he
      rw [hl] at he
      simp at he
      split at he <;> simp at he
  · have e : prepS As[k] r n = As[k] := by rw [prepS, if_neg he]
    rw [e, List.set_getElem_self]
    exact h
theorem prep_r {A : AS} {r n : Int} (h : prepE A r n = 0) : prepS A r n = ⟨r, n, A.first, A.vs⟩ := by rw [prepS, if_pos h]
end Go.Proofs.Ytodoncmielfbeaa.chspp
