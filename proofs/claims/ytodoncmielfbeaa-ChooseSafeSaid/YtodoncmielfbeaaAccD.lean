/-
  An acceptor's votes as data: a sorted list; the map that holds them; an acceptor in memory.
-/
import Derived.Test.YtodoncmielfbeaaOwn
import Derived.Test.YtodoncmielfbeaaMapKit
import Derived.Test.YtodoncmielfbeaaByt
import Derived.Test.YtodoncmielfbeaaProg
import Derived.Maps.OwnSet
namespace Go.Proofs.Ytodoncmielfbeaa.accd
open Go.ChangeShapes Go.WideShapes Go.ChangeAt Go.RowKit
open Go.Maps (Keyed)
open Go.ChangeMaps Go.MapKept
open Go.Proofs.Ytodoncmielfbeaa.kit Go.Proofs.Ytodoncmielfbeaa.mapkit Go.Proofs.Ytodoncmielfbeaa.byt Go.Proofs.Ytodoncmielfbeaa.own
set_option linter.unusedVariables false
set_option linter.unusedSimpArgs false
set_option maxHeartbeats 1000000
set_option maxRecDepth 100000

/-- A vote as it lies: slot, ballot, value. -/
structure Vt where
  s : Int
  r : Int
  n : Int
  l : List Nat
  a : Option Addr
  c : Nat
/-- What a vote says. -/
structure V4 where
  s : Int
  r : Int
  n : Int
  l : List Nat
deriving DecidableEq
def lv (v : Vt) : V4 := ⟨v.s, v.r, v.n, v.l⟩
def Vt.cells (v : Vt) : List Value := [.int .i64 v.s, .int .i64 v.r, .int .i64 v.n, .slice v.a v.l.length v.c]
def Vt.val (v : Vt) : Value := .agg #[.int .i64 v.s, .int .i64 v.r, .int .i64 v.n, .slice v.a v.l.length v.c]
def vcells (vs : List Vt) : List Value := vs.flatMap Vt.cells
/-- A vote's value lies in memory of its own. -/
def Body (w : World) (base : Nat) (v : Vt) : Prop := w.ownsRow base 5 1 (.slice v.a v.l.length v.c) v.l.length (bcells v.l)
theorem body_lie {w : World} {base : Nat} {v : Vt} (h : Body w base v) : Lie w v.a (bcells v.l) ∧ (v.a = none → v.l.length = 0 ∧ v.c = 0) := by
  obtain ⟨ao, cap, e, h1, h2, h3⟩ := owned_lie h
  simp only [Value.slice.injEq, true_and] at e
  obtain ⟨rfl, rfl⟩ := e
  exact ⟨h2, h1⟩

/-- The map that a list of votes is. -/
def look (vs : List Vt) : Lit → Option Value
  | .int .i64 s => (vs.find? (fun v => v.s == s)).map Vt.val
  | _ => none
/-- v in its place. -/
def put (vs : List Vt) (v : Vt) : List Vt := vs.filter (fun x => x.s < v.s) ++ v :: vs.filter (fun x => v.s < x.s)
def Ord (vs : List Vt) : Prop := vs.Pairwise fun x y => x.s < y.s

theorem find_filter {α : Type} (p q : α → Bool) : ∀ l : List α, (l.filter p).find? q = l.find? (fun a => p a && q a)
  | [] => rfl
  | u :: l => by
    rw [List.filter_cons, List.find?_cons]
    cases hp : p u with
    | true => simp only [if_true, List.find?_cons, Bool.true_and]; rw [find_filter p q l]
    | false => simp only [Bool.false_eq_true, if_false, Bool.false_and]; exact find_filter p q l
theorem look_upd (vs : List Vt) (v : Vt) : upd (look vs) (.int .i64 v.s) v.val = look (put vs v) := by
  funext y
  cases y with
  | int k x =>
    by_cases hk : k = .i64
    · subst hk
      show (if (Lit.int .i64 x).sameKey (.int .i64 v.s) = true then some v.val else (vs.find? (fun u => u.s == x)).map Vt.val) = ((put vs v).find? (fun u => u.s == x)).map Vt.val
      have e : (Lit.int .i64 x).sameKey (.int .i64 v.s) = decide (x = v.s) := by simp [Lit.sameKey]
      rw [e, put, List.find?_append, List.find?_cons, find_filter, find_filter]
      by_cases hx : x = v.s
      · subst hx
        have h1 : vs.find? (fun u => decide (u.s < v.s) && u.s == v.s) = none := by
          rw [List.find?_eq_none]
          intro u hu
          simp only [Bool.and_eq_true, decide_eq_true_eq, beq_iff_eq]
          omega
        rw [h1]
        simp
      · have hx1 : (v.s == x) = false := by simp; omega
        simp only [hx, decide_false, Bool.false_eq_true, if_false, hx1]
        rcases Int.lt_or_gt_of_ne hx with h | h
        · have h1 : vs.find? (fun u => decide (u.s < v.s) && u.s == x) = vs.find? (fun u => u.s == x) := by
            congr 1
            funext u
            by_cases hu : u.s = x
            · simp [hu, h]
            · simp [hu]
          have h2 : vs.find? (fun u => decide (v.s < u.s) && u.s == x) = none := by
            rw [List.find?_eq_none]
            intro u hu
            simp only [Bool.and_eq_true, decide_eq_true_eq, beq_iff_eq]
            omega
          rw [h1, h2]
          simp
        · have h1 : vs.find? (fun u => decide (v.s < u.s) && u.s == x) = vs.find? (fun u => u.s == x) := by
            congr 1
            funext u
            by_cases hu : u.s = x
            · simp [hu, h]
            · simp [hu]
          have h2 : vs.find? (fun u => decide (u.s < v.s) && u.s == x) = none := by
            rw [List.find?_eq_none]
            intro u hu
            simp only [Bool.and_eq_true, decide_eq_true_eq, beq_iff_eq]
            omega
          rw [h1, h2]
          simp
    · have h1 : ∀ f, look f (.int k x) = none := fun f => by cases k <;> first | rfl | exact absurd rfl hk
      have h2 : (Lit.int k x).sameKey (.int .i64 v.s) = false := by simp [Lit.sameKey, hk]
      simp [upd, h1, h2]
  | bool x => rfl
  | string x => rfl
  | _ => rfl

theorem filter_split (vs : List Vt) (s : Int) (h : Ord vs) : vs.length = (vs.filter (fun x => x.s < s)).length + (vs.filter (fun x => s < x.s)).length + (if (vs.find? (fun u => u.s == s)).isSome then 1 else 0) := by
  induction vs with
  | nil => rfl
  | cons u vs ih =>
    have hu := List.pairwise_cons.1 h
    have ih := ih hu.2
    rw [List.filter_cons, List.filter_cons, List.find?_cons]
    rcases Int.lt_trichotomy u.s s with h1 | h1 | h1
    · have e : (u.s == s) = false := by simp; omega
      simp only [h1, decide_true, if_true, show ¬ s < u.s by omega, decide_false, Bool.false_eq_true, if_false, e, List.length_cons]
      omega
    · subst h1
      have e : vs.find? (fun x => x.s == u.s) = none := by
        rw [List.find?_eq_none]
        intro x hx
        have := hu.1 x hx
        simp; omega
      rw [e] at ih
      simp only [show ¬ u.s < u.s by omega, decide_false, Bool.false_eq_true, if_false, beq_self_eq_true, List.length_cons]
      simp at ih ⊢
      omega
    · have e : (u.s == s) = false := by simp; omega
      simp only [h1, decide_true, if_true, show ¬ u.s < s by omega, decide_false, Bool.false_eq_true, if_false, e, List.length_cons]
      omega
theorem put_length (vs : List Vt) (v : Vt) (h : Ord vs) : (put vs v).length = if (look vs (.int .i64 v.s)).isSome then vs.length else vs.length + 1 := by
  have hs := filter_split vs v.s h
  rw [put, List.length_append, List.length_cons]
  show _ = if ((vs.find? (fun u => u.s == v.s)).map Vt.val).isSome then _ else _
  rw [Option.isSome_map]
  split
  · rename_i hx; rw [if_pos hx] at hs; omega
  · rename_i hx; rw [if_neg hx] at hs; omega
theorem put_ord {vs : List Vt} (v : Vt) (h : Ord vs) : Ord (put vs v) := by
  refine List.pairwise_append.2 ⟨List.Pairwise.filter _ h, List.pairwise_cons.2 ⟨?_, List.Pairwise.filter _ h⟩, ?_⟩
  · intro x hx
    simpa using (List.mem_filter.1 hx).2
  · intro x hx y hy
    have h1 : x.s < v.s := by simpa using (List.mem_filter.1 hx).2
    rcases List.mem_cons.1 hy with e | hy
    · rw [e]; exact h1
    · have h2 : v.s < y.s := by simpa using (List.mem_filter.1 hy).2
      omega
theorem put_mem {vs : List Vt} {v x : Vt} (h : x ∈ put vs v) : x = v ∨ x ∈ vs := by
  rcases List.mem_append.1 h with h | h
  · exact .inr (List.mem_filter.1 h).1
  · rcases List.mem_cons.1 h with h | h
    · exact .inl h
    · exact .inr (List.mem_filter.1 h).1
/-- A sorted list of slots within sixteen places holds sixteen at most. -/
theorem ord_len' (hi : Int) : ∀ (vs : List Vt) (lo : Int), lo ≤ hi → Ord vs → (∀ v ∈ vs, lo ≤ v.s ∧ v.s < hi) → (vs.length : Int) ≤ hi - lo
  | [], lo, h, _, _ => by simp; omega
  | u :: vs, lo, h, ho, hr => by
    have hu := List.pairwise_cons.1 ho
    have h1 := hr u (by simp)
    have := ord_len' hi vs (u.s + 1) (by omega) hu.2 (fun v hv => by
      have := hu.1 v hv
      have := hr v (List.mem_cons_of_mem _ hv)
      omega)
    simp only [List.length_cons]
    omega
theorem ord_len {first : Int} {vs : List Vt} (h : Ord vs) (hr : ∀ v ∈ vs, first ≤ v.s ∧ v.s < first + 16) : vs.length ≤ 16 := by
  have := ord_len' (first + 16) vs first (by omega) h hr
  omega
/-- All but the one of a slot. -/
def del (vs : List Vt) (s : Int) : List Vt := vs.filter (fun v => v.s != s)
def dele (f : Lit → Option Value) (x y : Lit) : Option Value := if y.sameKey x = true then none else f y
theorem look_del (vs : List Vt) (s : Int) : dele (look vs) (.int .i64 s) = look (del vs s) := by
  funext y
  cases y with
  | int k x =>
    by_cases hk : k = .i64
    · subst hk
      show (if (Lit.int .i64 x).sameKey (.int .i64 s) = true then none else (vs.find? (fun u => u.s == x)).map Vt.val) = ((del vs s).find? (fun u => u.s == x)).map Vt.val
      have e : (Lit.int .i64 x).sameKey (.int .i64 s) = decide (x = s) := by simp [Lit.sameKey]
      rw [e, del, find_filter]
      by_cases hx : x = s
      · subst hx
        have h1 : vs.find? (fun u => u.s != x && u.s == x) = none := by
          rw [List.find?_eq_none]
          intro u hu
          simp only [Bool.and_eq_true, bne_iff_ne, beq_iff_eq]
          omega
        rw [h1]
        simp
      · have h1 : vs.find? (fun u => u.s != s && u.s == x) = vs.find? (fun u => u.s == x) := by
          congr 1
          funext u
          by_cases hu : u.s = x
          · simp [hu, hx]
          · simp [hu]
        rw [h1]
        simp [hx]
    · have h1 : ∀ f, look f (.int k x) = none := fun f => by cases k <;> first | rfl | exact absurd rfl hk
      have h2 : (Lit.int k x).sameKey (.int .i64 s) = false := by simp [Lit.sameKey, hk]
      simp [dele, h1, h2]
  | bool x => rfl
  | string x => rfl
  | _ => rfl
theorem del_length (vs : List Vt) (s : Int) (h : Ord vs) : (del vs s).length + (if (look vs (.int .i64 s)).isSome then 1 else 0) = vs.length := by
  show _ + (if ((vs.find? (fun u => u.s == s)).map Vt.val).isSome then 1 else 0) = _
  rw [Option.isSome_map]
  induction vs with
  | nil => rfl
  | cons u vs ih =>
    have hu := List.pairwise_cons.1 h
    have ih := ih hu.2
    rw [del, List.filter_cons, List.find?_cons]
    by_cases h1 : u.s = s
    · subst h1
      have e : vs.find? (fun x => x.s == u.s) = none := by
        rw [List.find?_eq_none]
        intro x hx
        have := hu.1 x hx
        simp; omega
      rw [e] at ih
      simp [del] at ih ⊢
      exact ih
    · have e : (u.s == s) = false := by simpa using h1
      have e2 : (u.s != s) = true := by simpa using h1
      simp only [e, e2, if_true, List.length_cons]
      have ih : (List.filter (fun v => v.s != s) vs).length + _ = _ := ih
      omega

theorem keyedI : Keyed Try.prog 3 := Go.Maps.int_keyed Try.underlying3
theorem key_int {s : Int} (h1 : -9223372036854775808 ≤ s) (h2 : s ≤ 9223372036854775807) : keyOf Try.prog 3 (.int .i64 s) = some (.int .i64 s) := by
  have hw : (Lit.int .i64 s).wf = true := WalkArith.wf_i64 (by omega)
  simp [keyOf, Try.underlying3, mapKey, hw]
theorem votes_store {w : World} {mb : Nat} {vs : List Vt} (h : MapAt w Try.prog 3 mb (look vs) vs.length) (ho : Ord vs) (hl : vs.length ≤ 16) (v : Vt) (h1 : -9223372036854775808 ≤ v.s) (h2 : v.s ≤ 9223372036854775807) :
    ∃ w', (Instr.mapUpdate 96 (.map (some mb)) (.int .i64 v.s) v.val).run Try.prog w = .ok () w' ∧ MapAt w' Try.prog 3 mb (look (put vs v)) (put vs v).length ∧ w.grownBy w' (some mb) := by
  obtain ⟨w', hr, hm, hg⟩ := h.run_store keyedI Try.underlying96 (by unfold maxLen; omega) (key_int h1 h2) (val := v.val) (by trivial)
  refine ⟨w', hr, ?_, hg⟩
  rw [look_upd] at hm
  rw [put_length vs v ho]
  exact hm
theorem votes_delete {w : World} {mb : Nat} {vs : List Vt} (h : MapAt w Try.prog 3 mb (look vs) vs.length) (ho : Ord vs) (s : Int) (h1 : -9223372036854775808 ≤ s) (h2 : s ≤ 9223372036854775807) (ty : TypeId) :
    ∃ w', (Builtin.delete_ #[96, 3] ty #[.map (some mb), .int .i64 s]).run Try.prog w = .ok (.tuple #[]) w' ∧ MapAt w' Try.prog 3 mb (look (del vs s)) (del vs s).length ∧ w.grownBy w' (some mb) := by
  obtain ⟨D, hD, hn, hs⟩ := h
  have hti := hD.tidy keyedI
  obtain ⟨w', hr, hw, hg⟩ := hD.drop keyedI Try.underlying96 (key_int h1 h2) ty
  refine ⟨w', hr, ?_, hg.grown⟩
  have hsz := Go.Maps.size_del (k := .int .i64 s) hti
  rw [hs.has, hn] at hsz
  have hdl := del_length vs s ho
  have hsz2 : Go.Maps.size (D.del (.int .i64 s)) = (del vs s).length := by omega
  refine ⟨D.del (.int .i64 s), ?_, hsz2, ?_⟩
  · obtain ⟨es, clock, hb, F, hs', hD'⟩ := hw
    refine ⟨es, clock, hb, F, ?_, hD'⟩
    rw [← hsz2, hD']
    simp only [Go.Maps.size]
    rw [length_sorted]
    simp
  · rw [← look_del]
    intro y
    by_cases e : y = .int .i64 s
    · subst e
      rw [show dele (look vs) (.int .i64 s) (.int .i64 s) = none by simp [dele, Lit.sameKey]]
      exact Go.Maps.has_del_same
    · rw [show dele (look vs) (.int .i64 s) y = look vs y by simp [dele, Go.Maps.sameKey_ne e]]
      have := hs y
      cases hf : look vs y with
      | none => rw [hf] at this; simp only at this ⊢; rw [Go.Maps.has_del_other e]; exact this
      | some u => rw [hf] at this; simp only at this ⊢; rw [Go.Maps.has_del_other e]; exact ⟨this.1, fun z => by rw [Go.Maps.atKey_del_other e]; exact this.2 z⟩

/-- An acceptor in memory: its block b, its map mb; the votes' values lie at base and beyond. -/
structure AccAt (w : World) (base b mb : Nat) (r n first : Int) (vs : List Vt) : Prop where
  blk : w.heap[b]? = some (.cells #[.int .i64 r, .int .i64 n, .int .i64 first, .map (some mb)] 98 (0, 0))
  map : MapAt w Try.prog 3 mb (look vs) vs.length
  lo : base ≤ b ∧ base ≤ mb
  ord : Ord vs
  one : 1 ≤ first ∧ first ≤ 1099511627776
  rng : ∀ v ∈ vs, first ≤ v.s ∧ v.s < first + 16
  fit : ∀ v ∈ vs, v.l.length ≤ 2048
  bodies : ∀ v ∈ vs, Body w base v
theorem AccAt.len {w : World} {base b mb : Nat} {r n first : Int} {vs : List Vt} (h : AccAt w base b mb r n first vs) : vs.length ≤ 16 := ord_len h.ord h.rng
theorem AccAt.below {w w' : World} {base b mb : Nat} {r n first : Int} {vs : List Vt} (h : AccAt w base b mb r n first vs) (hb : Below w.heap.size w w') : AccAt w' base b mb r n first vs :=
  ⟨hp_step h.blk hb, h.map.below hb, h.lo, h.ord, h.one, h.rng, h.fit, fun v hv => own_below (h.bodies v hv) hb⟩
theorem AccAt.ne {w : World} {base b mb : Nat} {r n first : Int} {vs : List Vt} (h : AccAt w base b mb r n first vs) : b ≠ mb := by
  intro e
  obtain ⟨es, cl, hm⟩ := h.map.obj
  rw [← e, h.blk] at hm
  simp at hm
/-- Rows of other types stay while an acceptor's own two blocks turn. -/
theorem AccAt.row {w w' : World} {base b mb : Nat} {r n first : Int} {vs : List Vt} (h : AccAt w base b mb r n first vs) (hk : Keep (fun k => k = b ∨ k = mb) w w') {bs : Nat} {e : TypeId} {size m c : Nat} {a : Option Addr} {xs : List Value}
    (hr : w.ownsRow bs e size (.slice a m c) m xs) (he : e ≠ 98) : w'.ownsRow bs e size (.slice a m c) m xs := by
  refine own_kept hr (fun g hg => ?_)
  obtain ⟨cur, hcur⟩ := own_heap hr g hg
  refine hk.block g (own_from hr g hg).2 (fun hx => ?_)
  rcases hx with hx | hx
  · exact own_ne hr h.blk (fun e' => he e'.symm) g hg hx
  · obtain ⟨es, cl, hm⟩ := h.map.obj
    rw [← hx, hcur] at hm
    simp at hm
end Go.Proofs.Ytodoncmielfbeaa.accd
