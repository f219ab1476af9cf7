/-
  More lemmas of this seat's own: append as a step, with where the new slice lies; what a call may change of a net.
-/
import Derived.Test.YtodoncmielfbeaaKit
import Derived.Laws.OwnMore
import Derived.Deep.RegionLaw
import Derived.Deep.RegionHeld3
namespace Go.Proofs.Ytodoncmielfbeaa.kit
open Go.ChangeShapes Go.WideShapes Go.ChangeAt Go.RowKit Go.Joins
set_option linter.unusedVariables false
set_option linter.unusedSimpArgs false

/-- Where the slice lies that an append tells: where the old one lay, or in memory of its own. -/
theorem run_own_at {P : Program} {w w' : World} {v' : Value} (base : Nat) (t ty e : TypeId) (i : TypeInfo) (z : Value) (ht : P.underlying t = some (.slice e)) (hi : P.info? e = some i) (hz : i.zero = some z)
    (v : Value) (n : Nat) (xs : List Value) (hown : w.ownsRow base e i.size v n xs)
    (a : Addr) (m c : Nat) (news : List Value) (hl : news.length = m * i.size) (hnews : ∀ j u, news[j]? = some u → w.cell? (a.add j) = some u) (h1 : ∀ u ∈ news, u.oneCell' = true)
    (h63 : n + m ≤ maxLen) (hbytes : (n + m) * i.bytes ≤ 140737488355328)
    (hr : (Builtin.append_ #[t, t] ty #[v, .slice (some a) m c]).run P w = .ok v' w') : ∀ k, v'.ownBlock = some k → v.ownBlock = some k ∨ w.heap.size ≤ k := by
  have hsmall : n + m ≤ 9223372036854775807 := by simp only [maxLen] at h63; omega
  rcases hown.2 with ⟨rfl, rfl⟩ | ⟨g, cap, cur, rfl, hbg, hg, hnc, hcm, hcs, htake⟩
  · by_cases hm : m = 0
    · subst hm
      have hr2 : (Builtin.append_ #[t, t] ty #[.slice none 0 0, .slice (some a) 0 c]).run P w = .ok (.slice none 0 0) w := by
        simp [Builtin.append_, run_underlying ht, sizeOf, typeInfo, hi, Builtin.lenOf, Builtin.firstCells, loadCells, loadCellsFrom]
      have := hr2.symm.trans hr
      simp only [Result.ok.injEq] at this
      rw [← this.1]
      simp [Value.ownBlock]
    · have hr2 := run_append_nil (P := P) w t ty e i z ht hi hz a m c news hl hnews (by omega) (by omega) (by have hb := hbytes; simp only [Nat.zero_add] at hb; omega)
      have := hr2.symm.trans hr
      simp only [Result.ok.injEq] at this
      rw [← this.1]
      intro k hk
      simp only [Value.ownBlock, Option.some.injEq] at hk
      exact .inr (by omega)
  · by_cases hroom : n + m ≤ cap
    · have hfit : n * i.size + news.length ≤ cur.size := by rw [hl, hcs, ← Nat.add_mul]; exact Nat.mul_le_mul_right _ hroom
      have hr2 := run_append_room (P := P) w t ty e i ht hi g n cap cur hg a m c news hl hnews h1 hroom hfit
      have := hr2.symm.trans hr
      simp only [Result.ok.injEq] at this
      rw [← this.1]
      intro k hk
      exact .inl hk
    · have holds : ∀ j u, xs[j]? = some u → w.cell? ((⟨g, 0, none⟩ : Addr).add j) = some u := hown.cells (g := g) rfl
      have hr2 := run_append_grow (P := P) w t ty e i z ht hi hz ⟨g, 0, none⟩ n cap xs hown.1 holds a m c news hl hnews (by omega) (by omega) (growslice_fits (by omega) hbytes)
      have := hr2.symm.trans hr
      simp only [Result.ok.injEq] at this
      rw [← this.1]
      intro k hk
      simp only [Value.ownBlock, Option.some.injEq] at hk
      exact .inr (by omega)

theorem lie_adds {w : World} {ad : Addr} {news : List Value} (hlie : Lie w (some ad) news) : ∀ j u, news[j]? = some u → w.cell? (ad.add j) = some u := by
  intro j u hj
  rcases hlie with rfl | ⟨b, off, e1, hb, hc⟩
  · simp at hj
  · simp only [Option.some.injEq] at e1
    subst e1
    have hjl : j < news.length := (List.getElem?_eq_some_iff.1 hj).1
    have := hc j hjl
    rw [hj] at this
    unfold Addr.add
    split
    · next h0 => subst h0; simpa using this
    · exact this

/-- An append to a row of the call's own, as one step, with where the new slice lies. -/
theorem step_append_at {P : Program} {w : World} {ops : Array Oper} {o : Oper} {a : Act} {K : Act → World → Prop} {Q : Exit → Act → World → Prop} {E : Prop}
    (hg : o.guard = none) (s x : Operand) (t : TypeId) (ho : o.op = Op.call { callee := Callee.builtin Builtin.append, args := #[s, x], argTypes := #[t, t] })
    (base : Nat) (e : TypeId) (i : TypeInfo) (z : Value) (size bytes : Nat) (ht : P.underlying t = some (.slice e)) (hi : P.info? e = some i) (hz : i.zero = some z) (hsz : i.size = size) (hby : i.bytes = bytes)
    (hzs : z.cells.size = size) (hpos : 0 < size) (v : Value) (n : Nat) (xs : List Value) (hs : a.eval s = v) (hown : w.ownsRow base e size v n xs)
    (ad : Addr) (m c : Nat) (news : List Value) (hx : a.eval x = .slice (some ad) m c) (hlen : news.length = m * size) (hlie : Lie w (some ad) news) (hone : ∀ u ∈ news, u.oneCell' = true)
    (hmax : n + m ≤ maxLen) (hbytes : (n + m) * bytes ≤ 140737488355328) (hbase : base ≤ w.heap.size)
    (h : ∀ (v' : Value) (w' : World), w'.ownsRow base e size v' (n + m) (xs ++ news) → w.grownBy w' v.ownBlock → (∀ k, v'.ownBlock = some k → v.ownBlock = some k ∨ w.heap.size ≤ k) → K (a.put o.dst v') w') :
    if Region.wanted o (yielded ops a.tmps) = true then Oper.wp P o a w K Q else E := by
  have hw : Region.wanted o (yielded ops a.tmps) = true := by simp [Region.wanted, hg]
  rw [if_pos hw]
  obtain ⟨v', w', hr, h1, h2, _⟩ := run_append_own (P := P) w base t o.type e i z size bytes ht hi hz hsz hby hzs hpos v n xs hown ad m c news hlen (lie_adds hlie) hone hmax hbytes hbase
  have h3 := run_own_at base t o.type e i z ht hi hz v n xs (by rw [hsz]; exact hown) ad m c news (by rw [hsz]; exact hlen) (lie_adds hlie) hone hmax (by rw [hby]; exact hbytes) hr
  unfold Oper.wp execOp
  simp only [ho, resolve, invoke, builtin, Sem.run_bind, Sem.run_pure, Result.andThen_ok, List.map_toArray, List.map_cons, List.map_nil, hs, hx, hr]
  exact h v' w' h1 h2 h3

/-- The blocks that a struct's slice (its cell 1) and map or second slice (its cell 2) lie in, and its own. -/
def Foot (w : World) (b k : Nat) : Prop :=
  k = b ∨ (∃ n c, w.cell? ⟨b, 1, none⟩ = some (.slice (some ⟨k, 0, none⟩) n c)) ∨ w.cell? ⟨b, 2, none⟩ = some (.map (some k)) ∨ (∃ n c, w.cell? ⟨b, 2, none⟩ = some (.slice (some ⟨k, 0, none⟩) n c))
/-- What a call may have changed of what was there, and where the struct's parts lie behind it. -/
structure Moved (w w' : World) (b : Nat) : Prop where
  kept : ∀ k, k < w.heap.size → ¬ Foot w b k → w'.heap[k]? = w.heap[k]?
  foot : ∀ k, Foot w' b k → Foot w b k ∨ w.heap.size ≤ k
  size : w.heap.size ≤ w'.heap.size
theorem foot_same {w w' : World} {b : Nat} (h : w'.heap[b]? = w.heap[b]?) (k : Nat) : Foot w' b k ↔ Foot w b k := by
  have e : ∀ o, w'.cell? ⟨b, o, none⟩ = w.cell? ⟨b, o, none⟩ := fun o => by simp [World.cell?, h]
  simp only [Foot, e]
theorem Moved.of_below {w w' : World} {b : Nat} (h : Below w.heap.size w w') (hb : b < w.heap.size) : Moved w w' b :=
  ⟨fun k hk _ => h.block k hk, fun k hk => .inl ((foot_same (h.block b hb) k).1 hk), h.size⟩
theorem Moved.refl (w : World) (b : Nat) : Moved w w b := ⟨fun _ _ _ => rfl, fun _ h => .inl h, Nat.le_refl _⟩
theorem Moved.trans {w w1 w2 : World} {b : Nat} (h1 : Moved w w1 b) (h2 : Moved w1 w2 b) : Moved w w2 b := by
  refine ⟨fun k hk hn => ?_, fun k hk => ?_, Nat.le_trans h1.size h2.size⟩
  · refine (h2.kept k (Nat.lt_of_lt_of_le hk h1.size) (fun hf => ?_)).trans (h1.kept k hk hn)
    rcases h1.foot k hf with h | h
    · exact hn h
    · omega
  · rcases h2.foot k hk with h | h
    · exact h1.foot k h
    · exact .inr (Nat.le_trans h1.size h)
theorem foot_map {w : World} {b n c mb : Nat} {u : Value} {a : Option Addr} {T : TypeId} (h : w.heap[b]? = some (.cells #[u, .slice a n c, .map (some mb)] T (0, 0))) (k : Nat) : Foot w b k ↔ k = b ∨ a = some ⟨k, 0, none⟩ ∨ k = mb := by
  obtain ⟨_, c1, c2, _⟩ := blk3 h
  simp only [Foot, c1, c2, Option.some.injEq, Value.slice.injEq, Value.map.injEq]
  constructor
  · rintro (h | ⟨n, c, h, _⟩ | h | ⟨_, _, h⟩)
    · exact .inl h
    · exact .inr (.inl h)
    · exact .inr (.inr h.symm)
    · simp at h
  · rintro (h | h | h)
    · exact .inl h
    · exact .inr (.inl ⟨_, _, h, rfl, rfl⟩)
    · exact .inr (.inr (.inl h.symm))
theorem foot_two {w : World} {b n c n2 c2 : Nat} {u : Value} {a a2 : Option Addr} {T : TypeId} (h : w.heap[b]? = some (.cells #[u, .slice a n c, .slice a2 n2 c2] T (0, 0))) (k : Nat) : Foot w b k ↔ k = b ∨ a = some ⟨k, 0, none⟩ ∨ a2 = some ⟨k, 0, none⟩ := by
  obtain ⟨_, d1, d2, _⟩ := blk3 h
  simp only [Foot, d1, d2, Option.some.injEq, Value.slice.injEq]
  constructor
  · rintro (h | ⟨n, c, h, _⟩ | h | ⟨_, _, h, _⟩)
    · exact .inl h
    · exact .inr (.inl h)
    · simp at h
    · exact .inr (.inr h)
  · rintro (h | h | h)
    · exact .inl h
    · exact .inr (.inl ⟨_, _, h, rfl, rfl⟩)
    · exact .inr (.inr (.inr ⟨_, _, h, rfl, rfl⟩))
end Go.Proofs.Ytodoncmielfbeaa.kit
