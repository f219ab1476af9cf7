/-
  More lemmas of this seat's own: append in a region that does not draw, with where the new slice lies.
-/
import Derived.Test.YtodoncmielfbeaaKit3
namespace Go.Proofs.Ytodoncmielfbeaa.kit
open Go.ChangeShapes Go.WideShapes Go.ChangeAt Go.RowKit Go.Joins
set_option linter.unusedVariables false
set_option linter.unusedSimpArgs false

/-- The same in a region that does not draw. -/
theorem wpl_append_at {P : Program} {w : World} {ops : Array Oper} {rest : List Oper} {o : Oper} {a : Act} {Q : Exit → Act → World → Prop}
    (hg : o.guard = none) (s x : Operand) (t : TypeId) (ho : o.op = Op.call { callee := Callee.builtin Builtin.append, args := #[s, x], argTypes := #[t, t] })
    (base : Nat) (e : TypeId) (i : TypeInfo) (z : Value) (size bytes : Nat) (ht : P.underlying t = some (.slice e)) (hi : P.info? e = some i) (hz : i.zero = some z) (hsz : i.size = size) (hby : i.bytes = bytes)
    (hzs : z.cells.size = size) (hpos : 0 < size) (v : Value) (n : Nat) (xs : List Value) (hs : a.eval s = v) (hown : w.ownsRow base e size v n xs)
    (ad : Addr) (m c : Nat) (news : List Value) (hx : a.eval x = .slice (some ad) m c) (hlen : news.length = m * size) (hlie : Lie w (some ad) news) (hone : ∀ u ∈ news, u.oneCell' = true)
    (hmax : n + m ≤ maxLen) (hbytes : (n + m) * bytes ≤ 140737488355328) (hbase : base ≤ w.heap.size)
    (h : ∀ (v' : Value) (w' : World), w'.ownsRow base e size v' (n + m) (xs ++ news) → w.grownBy w' v.ownBlock → (∀ k, v'.ownBlock = some k → v.ownBlock = some k ∨ w.heap.size ≤ k) → wpList P ops Q rest (a.put o.dst v') w') :
    wpList P ops Q (o :: rest) a w := by
  refine wpList_plain hg fun K hK => ?_
  obtain ⟨v', w', hr, h1, h2, _⟩ := run_append_own (P := P) w base t o.type e i z size bytes ht hi hz hsz hby hzs hpos v n xs hown ad m c news hlen (lie_adds hlie) hone hmax hbytes hbase
  have h3 := run_own_at base t o.type e i z ht hi hz v n xs (by rw [hsz]; exact hown) ad m c news (by rw [hsz]; exact hlen) (lie_adds hlie) hone hmax (by rw [hby]; exact hbytes) hr
  unfold Oper.wp execOp
  simp only [ho, resolve, invoke, builtin, Sem.run_bind, Sem.run_pure, Result.andThen_ok, List.map_toArray, List.map_cons, List.map_nil, hs, hx, hr]
  exact hK _ _ (h v' w' h1 h2 h3)
end Go.Proofs.Ytodoncmielfbeaa.kit
