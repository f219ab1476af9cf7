/-
  Lemmas of this seat's own, about no program in particular: a map in memory as a function of its keys; looking up, storing, counting, emptying.
-/
import Derived.Test.YtodoncmielfbeaaKit
import Derived.Maps.Own
import Derived.Maps.OwnOps
import Derived.Maps.OwnSet
import Derived.Maps.Views
namespace Go.Proofs.Ytodoncmielfbeaa.mapkit
open Go.ChangeShapes Go.WideShapes Go.ChangeAt Go.RowKit Go.Joins
open Go.Maps (Keyed)
open Go.ChangeMaps Go.MapKept
open Go.Proofs.Ytodoncmielfbeaa.kit
set_option linter.unusedVariables false
set_option linter.unusedSimpArgs false

/-- An element is read as the value that it is. -/
def raw (v : Value) : Option (DataW Value × List MemPlace) := some (.held v, [])

/-- What a map's datum says, key by key. -/
def Says (D : DataW Value) (f : Lit → Option Value) : Prop :=
  ∀ x, match f x with
    | none => Maps.has D x = false
    | some v => Maps.has D x = true ∧ ∀ z, D.atKey x z = .held v

/-- Block b is a map, its keys of type k, with the cnt entries that f says. -/
def MapAt (w : World) (P : Program) (k : TypeId) (b : Nat) (f : Lit → Option Value) (cnt : Nat) : Prop :=
  ∃ D, w.ownsMap P k raw b cnt D ∧ Maps.size D = cnt ∧ Says D f

variable {P : Program} {w : World} {k : TypeId} {b cnt : Nat} {f : Lit → Option Value}

theorem MapAt.lt (h : MapAt w P k b f cnt) : b < w.heap.size := by
  obtain ⟨D, h, _⟩ := h
  exact h.lt
theorem MapAt.obj (h : MapAt w P k b f cnt) : ∃ es clock, w.heap[b]? = some (.map es clock) := by
  obtain ⟨D, ⟨es, clock, hb, _⟩, _⟩ := h
  exact ⟨es, clock, hb⟩
theorem MapAt.to {w' : World} (h : MapAt w P k b f cnt) (hk : w'.heap[b]? = w.heap[b]?) : MapAt w' P k b f cnt := by
  obtain ⟨D, ⟨es, clock, hb, r⟩, h2⟩ := h
  exact ⟨D, ⟨es, clock, hk.trans hb, r⟩, h2⟩
theorem MapAt.below {w' : World} (h : MapAt w P k b f cnt) (hb : Below w.heap.size w w') : MapAt w' P k b f cnt := h.to (hb.block b h.lt)
theorem MapAt.keep {S : Nat → Prop} {w' : World} (h : MapAt w P k b f cnt) (hb : Keep S w w') (hS : ¬ S b) : MapAt w' P k b f cnt := h.to (hb.block b h.lt hS)
theorem MapAt.alloc (h : MapAt w P k b f cnt) (o : Obj) : MapAt (w.alloc o) P k b f cnt := h.to (hp_alloc_old h.lt)
theorem MapAt.drew (h : MapAt w P k b f cnt) : MapAt w.drew P k b f cnt := h
theorem MapAt.set (h : MapAt w P k b f cnt) {a : Addr} (ha : b ≠ a.block) (v : Value) : MapAt (w.setCell a v) P k b f cnt := h.to (hp_set_ne ha)

theorem map_made (w : World) (P : Program) (k : TypeId) : MapAt (w.alloc (.map #[] 0)) P k w.heap.size (fun _ => none) 0 :=
  ⟨_, World.ownsMap_made _ _ _ _, rfl, fun x => rfl⟩

/-- f, but v at x. -/
def upd (f : Lit → Option Value) (x : Lit) (v : Value) (y : Lit) : Option Value := if y.sameKey x = true then some v else f y

theorem Says.put {D : DataW Value} (h : Says D f) (hD : Maps.IsMap D) {x : Lit} (hx : WideAt.IsKeyLit x) (v : Value) : Says (D.put x (.held v)) (upd f x v) := by
  intro y
  by_cases e : y = x
  · subst e
    rw [show upd f y v y = some v by simp [upd, WideAt.sameKey_self hx]]
    exact ⟨Maps.has_put_same hD hx _, fun z => Maps.atKey_put_same hD hx _ _⟩
  · rw [show upd f x v y = f y by simp [upd, Maps.sameKey_ne e]]
    have := h y
    cases hf : f y with
    | none => rw [hf] at this; simp only at this ⊢; rw [Maps.has_put_other e]; exact this
    | some u => rw [hf] at this; simp only at this ⊢; rw [Maps.has_put_other e]; exact ⟨this.1, fun z => by rw [Maps.atKey_put_other e]; exact this.2 z⟩
theorem Says.has {D : DataW Value} (h : Says D f) (x : Lit) : Maps.has D x = (f x).isSome := by
  have := h x
  cases hf : f x with
  | none => rw [hf] at this; simpa using this
  | some u => rw [hf] at this; simpa using this.1
theorem Says.at {D : DataW Value} (h : Says D f) (x : Lit) (z : Value) : D.atKey x (.held z) = .held ((f x).getD z) := by
  have := h x
  cases hf : f x with
  | none => rw [hf] at this; simp only [Option.getD]; exact Maps.atKey_of_not_has this _
  | some u => rw [hf] at this; simp only [Option.getD]; exact this.2 _
theorem raw_inv {v : Value} {d : DataW Value} {ps : List MemPlace} (h : raw v = some (d, ps)) : d = .held v := by
  simp [raw] at h
  exact h.1.symm

/-- Whatever was drawn. -/
theorem MapAt.drewN (h : MapAt w P k b f cnt) (n : Nat) : MapAt (w.drewN n) P k b f cnt := h
theorem MapAt.run_len {t e : TypeId} (h : MapAt w P k b f cnt) (ht : P.underlying t = some (.map k e)) (ty : TypeId) : (Builtin.len_ #[t] ty #[.map (some b)]).run P w = .ok (.int .i64 cnt) w := by
  obtain ⟨D, h1, h2, h3⟩ := h
  rw [h1.len ht ty, h2]
theorem MapAt.run_look_ok {t e : TypeId} (h : MapAt w P k b f cnt) (K : Keyed P k) (ht : P.underlying t = some (.map k e)) {z : Value} (hz : (zeroValue e).run P w = .ok z w) {key : Value} {kl : Lit} (hkey : keyOf P k key = some kl) :
    (Instr.lookup t (.map (some b)) key true).run P w = .ok (.tuple #[(f kl).getD z, .bool (f kl).isSome]) w := by
  obtain ⟨D, h1, h2, h3⟩ := h
  obtain ⟨v, ps, hrun, hv⟩ := h1.look_ok K ht hz (zd := .held z) (zp := []) rfl hkey
  have := raw_inv hv
  rw [h3.at, DataW.held.injEq] at this
  rw [hrun, h3.has, ← this]
theorem MapAt.run_look {t e : TypeId} (h : MapAt w P k b f cnt) (K : Keyed P k) (ht : P.underlying t = some (.map k e)) {z : Value} (hz : (zeroValue e).run P w = .ok z w) {key : Value} {kl : Lit} (hkey : keyOf P k key = some kl) :
    (Instr.lookup t (.map (some b)) key false).run P w = .ok ((f kl).getD z) w := by
  obtain ⟨D, h1, h2, h3⟩ := h
  obtain ⟨v, ps, hrun, hv⟩ := h1.lookup K ht hz (zd := .held z) (zp := []) rfl hkey
  have := raw_inv hv
  rw [h3.at, DataW.held.injEq] at this
  rw [hrun, ← this]
theorem MapAt.run_store {t e : TypeId} (hown : MapAt w P k b f cnt) (K : Keyed P k) (ht : P.underlying t = some (.map k e)) (hn : cnt < maxLen) {key val : Value} {kl : Lit} (hkey : keyOf P k key = some kl) (hlit : WideAt.IsKeyLit kl) :
    ∃ w', (Instr.mapUpdate t (.map (some b)) key val).run P w = .ok () w' ∧ MapAt w' P k b (upd f kl val) (if (f kl).isSome then cnt else cnt + 1) ∧ w.grownBy w' (some b) := by
  obtain ⟨D, h1, h2, h3⟩ := hown
  have hti := h1.tidy K
  obtain ⟨w', hrun, hw, hgr⟩ := h1.update K ht hn hkey (val := val) (d := .held val) (ps := []) rfl
  refine ⟨w', hrun, ?_, hgr⟩
  have hsz := Maps.size_put (k := kl) hti (.held val)
  rw [h3.has, h2] at hsz
  refine ⟨D.put kl (.held val), ?_, hsz, h3.put hti.isMap hlit val⟩
  obtain ⟨es, clock, hb, F, hs, hD⟩ := hw
  refine ⟨es, clock, hb, F, ?_, hD⟩
  rw [← hsz, hD]
  simp only [Maps.size]
  rw [length_sorted]
  simp

section
variable {ops : Array Oper} {rest : List Oper} {o : Oper} {a : Act} {Q : Exit → Act → World → Prop}

/-- 'v, ok := m[x]'. -/
theorem wpl_look_ok (hg : o.guard = none) (m x : Operand) (t : TypeId) (hop : o.op = Op.lookup t m x true)
    (e : TypeId) (K : Keyed P k) (ht : P.underlying t = some (.map k e)) {z : Value} (hz : (zeroValue e).run P w = .ok z w) (hm : a.eval m = .map (some b)) (hown : MapAt w P k b f cnt)
    (key : Value) (kl : Lit) (hx : a.eval x = key) (hkey : keyOf P k key = some kl)
    (hK : wpList P ops Q rest (a.put o.dst (.tuple #[(f kl).getD z, .bool (f kl).isSome])) w) : wpList P ops Q (o :: rest) a w := by
  obtain ⟨D, h1, h2, h3⟩ := hown
  refine Go.wpList_lookup_own_ok w hg m x t hop k e K ht raw hz (.held z) [] rfl b cnt D hm h1 key kl hx hkey fun v ps hv => ?_
  have := raw_inv hv
  rw [h3.at, DataW.held.injEq] at this
  rw [h3.has, ← this]
  exact hK

/-- 'v := m[x]'. -/
theorem wpl_look (hg : o.guard = none) (m x : Operand) (t : TypeId) (hop : o.op = Op.lookup t m x false)
    (e : TypeId) (K : Keyed P k) (ht : P.underlying t = some (.map k e)) {z : Value} (hz : (zeroValue e).run P w = .ok z w) (hm : a.eval m = .map (some b)) (hown : MapAt w P k b f cnt)
    (key : Value) (kl : Lit) (hx : a.eval x = key) (hkey : keyOf P k key = some kl)
    (hK : wpList P ops Q rest (a.put o.dst ((f kl).getD z)) w) : wpList P ops Q (o :: rest) a w := by
  obtain ⟨D, h1, h2, h3⟩ := hown
  refine wpList_plain hg fun K' hK' => ?_
  obtain ⟨v, ps, hrun, hv⟩ := h1.lookup K ht hz (zd := .held z) (zp := []) rfl hkey
  have := raw_inv hv
  rw [h3.at, DataW.held.injEq] at this
  unfold Oper.wp
  simp [execOp, hop, hm, hx, hrun, Result.andThen]
  rw [← this]
  exact hK' _ _ hK

/-- 'len(m)'. -/
theorem wpl_len (hg : o.guard = none) (m : Operand) (t : TypeId) (hop : o.op = Op.call { callee := Callee.builtin Builtin.len, args := #[m], argTypes := #[t] })
    (e : TypeId) (ht : P.underlying t = some (.map k e)) (hm : a.eval m = .map (some b)) (hown : MapAt w P k b f cnt)
    (hK : wpList P ops Q rest (a.put o.dst (.int .i64 cnt)) w) : wpList P ops Q (o :: rest) a w := by
  obtain ⟨D, h1, h2, h3⟩ := hown
  refine Go.wpList_len_own w hg m t hop k e ht raw b cnt D hm h1 ?_
  rw [h2]
  exact hK

/-- 'm[x] = v'. -/
theorem wpl_store (hg : o.guard = none) (m x v : Operand) (t : TypeId) (hop : o.op = Op.mapUpdate t m x v)
    (e : TypeId) (K : Keyed P k) (ht : P.underlying t = some (.map k e)) (hm : a.eval m = .map (some b)) (hown : MapAt w P k b f cnt) (hn : cnt < maxLen)
    (key val : Value) (kl : Lit) (hx : a.eval x = key) (hv : a.eval v = val) (hkey : keyOf P k key = some kl) (hlit : WideAt.IsKeyLit kl)
    (hK : ∀ w', MapAt w' P k b (upd f kl val) (if (f kl).isSome then cnt else cnt + 1) → w.grownBy w' (some b) → wpList P ops Q rest (a.put o.dst undef) w') :
    wpList P ops Q (o :: rest) a w := by
  obtain ⟨D, h1, h2, h3⟩ := hown
  have hti := h1.tidy K
  refine Go.wpList_mapUpdate_own w hg m x v t hop k e K ht raw b cnt D hm h1 hn key val kl hx hv hkey (.held val) [] rfl fun w' hw hgr => ?_
  refine hK w' ?_ hgr
  have hsz := Maps.size_put (k := kl) hti (.held val)
  rw [h3.has, h2] at hsz
  refine ⟨D.put kl (.held val), ?_, hsz, h3.put hti.isMap hlit val⟩
  obtain ⟨es, clock, hb, F, hs, hD⟩ := hw
  refine ⟨es, clock, hb, F, ?_, hD⟩
  rw [← hsz, hD]
  simp only [Maps.size]
  rw [length_sorted]
  simp

/-- 'clear(m)'. -/
theorem wpl_clear (hg : o.guard = none) (m : Operand) (t : TypeId) (hop : o.op = Op.call { callee := Callee.builtin Builtin.clear, args := #[m], argTypes := #[t] })
    (e : TypeId) (ht : P.underlying t = some (.map k e)) (hm : a.eval m = .map (some b)) (hown : MapAt w P k b f cnt)
    (hK : ∀ w', MapAt w' P k b (fun _ => none) 0 → w.grownBy w' (some b) → wpList P ops Q rest (a.put o.dst (.tuple #[])) w') : wpList P ops Q (o :: rest) a w := by
  have hlt := hown.lt
  obtain ⟨es, clock, hb⟩ := hown.obj
  refine wpList_plain hg fun K' hK' => ?_
  have hrun : (Builtin.clear_ #[t] o.type #[.map (some b)]).run P w = .ok (.tuple #[]) (setBlock w b (.map #[] clock)) := by
    simp [Builtin.clear_, run_underlying ht, MapKept.run_getObj_map hb, MapKept.run_setObj_map _ hb, Result.andThen, setBlock]
  unfold Oper.wp
  simp [execOp, hop, resolve, invoke, builtin, hm, hrun, Result.andThen]
  refine hK' _ _ (hK _ ?_ ?_)
  · refine ⟨.map [], ⟨#[], clock, ?_, ⟨by simp, stamped_empty clock, by simp⟩, Nat.le_refl _, rfl⟩, rfl, fun x => rfl⟩
    simp [setBlock, hlt]
  · refine ⟨rfl, rfl, rfl, by simp [setBlock], fun k hk hne => ?_⟩
    have hkb : b ≠ k := by rintro rfl; exact hne rfl
    simp only [setBlock]
    simp [Array.getElem?_setIfInBounds, hkb]

/-- 'm[x] = v' as one step of a drawn region. -/
theorem step_store {K' : Act → World → Prop} {E : Prop} (hg : o.guard = none) (m x v : Operand) (t : TypeId) (hop : o.op = Op.mapUpdate t m x v)
    (e : TypeId) (K : Keyed P k) (ht : P.underlying t = some (.map k e)) (hm : a.eval m = .map (some b)) (hown : MapAt w P k b f cnt) (hn : cnt < maxLen)
    (key val : Value) (kl : Lit) (hx : a.eval x = key) (hv : a.eval v = val) (hkey : keyOf P k key = some kl) (hlit : WideAt.IsKeyLit kl)
    (hK : ∀ w', MapAt w' P k b (upd f kl val) (if (f kl).isSome then cnt else cnt + 1) → w.grownBy w' (some b) → K' (a.put o.dst undef) w') :
    if Region.wanted o (yielded ops a.tmps) = true then Oper.wp P o a w K' Q else E := by
  have hw : Region.wanted o (yielded ops a.tmps) = true := by simp [Region.wanted, hg]
  rw [if_pos hw]
  obtain ⟨w', hrun, h1, h2⟩ := hown.run_store K ht hn hkey hlit (val := val)
  unfold Oper.wp
  simp [execOp, hop, hm, hx, hv, hrun, Result.andThen]
  exact hK w' h1 h2
end
end Go.Proofs.Ytodoncmielfbeaa.mapkit
