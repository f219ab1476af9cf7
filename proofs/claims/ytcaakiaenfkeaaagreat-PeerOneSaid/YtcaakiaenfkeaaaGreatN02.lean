/-
  Lemmas of this seat's own, about no program in particular: a map in memory as a function of its keys; looking up, storing, counting, emptying.
-/
import Derived.Test.YtcaakiaenfkeaaaGreatN01
import Derived.Maps.Own
import Derived.Maps.OwnOps
import Derived.Maps.OwnSet
import Derived.Maps.Views
import Derived.Test.YtcaakiaenfkeaaaGreatProg
import Derived.Lib.Hide
import Derived.BigQuiet
import Derived.Deep.QuietTactic
import Derived.Deep.RegionHeld3
namespace Go.Proofs.YtcaakiaenfkeaaaGreat.mapkit
open Go.ChangeShapes Go.WideShapes Go.ChangeAt Go.RowKit Go.Joins
open Go.Maps (Keyed)
open Go.ChangeMaps Go.MapKept
open Go.Proofs.YtcaakiaenfkeaaaGreat.kit
set_option linter.unusedVariables false
set_option linter.unusedSimpArgs false

/-- An element is read as the value that it is. -/
def raw (v : Value) : Option (DataW Value × List MemPlace) := some (.held v, [])

/-- What a map's datum says, key by key. -/
def Says (D : DataW Value) (f : Lit → Option Value) : Prop :=
  ∀ x, match f x with
    | none => Maps.has D x = false
    | some v => Maps.has D x = true ∧ ∀ z, D.atKey x z = .held v

/-- Block b is a map, its keys of type k, with the cnt entries that f says. -/
def MapAt (w : World) (P : Program) (k : TypeId) (b : Nat) (f : Lit → Option Value) (cnt : Nat) : Prop :=
  ∃ D, w.ownsMap P k raw b cnt D ∧ Maps.size D = cnt ∧ Says D f

variable {P : Program} {w : World} {k : TypeId} {b cnt : Nat} {f : Lit → Option Value}

theorem MapAt.lt (h : MapAt w P k b f cnt) : b < w.heap.size := by
  obtain ⟨D, h, _⟩ := h
  exact h.lt
theorem MapAt.obj (h : MapAt w P k b f cnt) : ∃ es clock, w.heap[b]? = some (.map es clock) := by
  obtain ⟨D, ⟨es, clock, hb, _⟩, _⟩ := h
  exact ⟨es, clock, hb⟩
theorem MapAt.to {w' : World} (h : MapAt w P k b f cnt) (hk : w'.heap[b]? = w.heap[b]?) : MapAt w' P k b f cnt := by
  obtain ⟨D, ⟨es, clock, hb, r⟩, h2⟩ := h
  exact ⟨D, ⟨es, clock, hk.trans hb, r⟩, h2⟩
theorem MapAt.below {w' : World} (h : MapAt w P k b f cnt) (hb : Below w.heap.size w w') : MapAt w' P k b f cnt := h.to (hb.block b h.lt)
theorem MapAt.keep {S : Nat → Prop} {w' : World} (h : MapAt w P k b f cnt) (hb : Keep S w w') (hS : ¬ S b) : MapAt w' P k b f cnt := h.to (hb.block b h.lt hS)
theorem MapAt.alloc (h : MapAt w P k b f cnt) (o : Obj) : MapAt (w.alloc o) P k b f cnt := h.to (hp_alloc_old h.lt)
theorem MapAt.drew (h : MapAt w P k b f cnt) : MapAt w.drew P k b f cnt := h
theorem MapAt.set (h : MapAt w P k b f cnt) {a : Addr} (ha : b ≠ a.block) (v : Value) : MapAt (w.setCell a v) P k b f cnt := h.to (hp_set_ne ha)

theorem map_made (w : World) (P : Program) (k : TypeId) : MapAt (w.alloc (.map #[] 0)) P k w.heap.size (fun _ => none) 0 :=
  ⟨_, World.ownsMap_made _ _ _ _, rfl, fun x => rfl⟩

/-- f, but v at x. -/
def upd (f : Lit → Option Value) (x : Lit) (v : Value) (y : Lit) : Option Value := if y.sameKey x = true then some v else f y

theorem Says.put {D : DataW Value} (h : Says D f) (hD : Maps.IsMap D) {x : Lit} (hx : WideAt.IsKeyLit x) (v : Value) : Says (D.put x (.held v)) (upd f x v) := by
  intro y
  by_cases e : y = x
  · subst e
    rw [show upd f y v y = some v by simp [upd, WideAt.sameKey_self hx]]
    exact ⟨Maps.has_put_same hD hx _, fun z => Maps.atKey_put_same hD hx _ _⟩
  · rw [show upd f x v y = f y by simp [upd, Maps.sameKey_ne e]]
    have := h y
    cases hf : f y with
    | none => rw [hf] at this; simp only at this ⊢; rw [Maps.has_put_other e]; exact this
    | some u => rw [hf] at this; simp only at this ⊢; rw [Maps.has_put_other e]; exact ⟨this.1, fun z => by rw [Maps.atKey_put_other e]; exact this.2 z⟩
theorem Says.has {D : DataW Value} (h : Says D f) (x : Lit) : Maps.has D x = (f x).isSome := by
  have := h x
  cases hf : f x with
  | none => rw [hf] at this; simpa using this
  | some u => rw [hf] at this; simpa using this.1
theorem Says.at {D : DataW Value} (h : Says D f) (x : Lit) (z : Value) : D.atKey x (.held z) = .held ((f x).getD z) := by
  have := h x
  cases hf : f x with
  | none => rw [hf] at this; simp only [Option.getD]; exact Maps.atKey_of_not_has this _
  | some u => rw [hf] at this; simp only [Option.getD]; exact this.2 _
theorem raw_inv {v : Value} {d : DataW Value} {ps : List MemPlace} (h : raw v = some (d, ps)) : d = .held v := by
  simp [raw] at h
  exact h.1.symm

/-- Whatever was drawn. -/
theorem MapAt.drewN (h : MapAt w P k b f cnt) (n : Nat) : MapAt (w.drewN n) P k b f cnt := h
theorem MapAt.run_len {t e : TypeId} (h : MapAt w P k b f cnt) (ht : P.underlying t = some (.map k e)) (ty : TypeId) : (Builtin.len_ #[t] ty #[.map (some b)]).run P w = .ok (.int .i64 cnt) w := by
  obtain ⟨D, h1, h2, h3⟩ := h
  rw [h1.len ht ty, h2]
theorem MapAt.run_look_ok {t e : TypeId} (h : MapAt w P k b f cnt) (K : Keyed P k) (ht : P.underlying t = some (.map k e)) {z : Value} (hz : (zeroValue e).run P w = .ok z w) {key : Value} {kl : Lit} (hkey : keyOf P k key = some kl) :
    (Instr.lookup t (.map (some b)) key true).run P w = .ok (.tuple #[(f kl).getD z, .bool (f kl).isSome]) w := by
  obtain ⟨D, h1, h2, h3⟩ := h
  obtain ⟨v, ps, hrun, hv⟩ := h1.look_ok K ht hz (zd := .held z) (zp := []) rfl hkey
  have := raw_inv hv
  rw [h3.at, DataW.held.injEq] at this
  rw [hrun, h3.has, ← this]
theorem MapAt.run_look {t e : TypeId} (h : MapAt w P k b f cnt) (K : Keyed P k) (ht : P.underlying t = some (.map k e)) {z : Value} (hz : (zeroValue e).run P w = .ok z w) {key : Value} {kl : Lit} (hkey : keyOf P k key = some kl) :
    (Instr.lookup t (.map (some b)) key false).run P w = .ok ((f kl).getD z) w := by
  obtain ⟨D, h1, h2, h3⟩ := h
  obtain ⟨v, ps, hrun, hv⟩ := h1.lookup K ht hz (zd := .held z) (zp := []) rfl hkey
  have := raw_inv hv
  rw [h3.at, DataW.held.injEq] at this
  rw [hrun, ← this]
theorem MapAt.run_store {t e : TypeId} (hown : MapAt w P k b f cnt) (K : Keyed P k) (ht : P.underlying t = some (.map k e)) (hn : cnt < maxLen) {key val : Value} {kl : Lit} (hkey : keyOf P k key = some kl) (hlit : WideAt.IsKeyLit kl) :
    ∃ w', (Instr.mapUpdate t (.map (some b)) key val).run P w = .ok () w' ∧ MapAt w' P k b (upd f kl val) (if (f kl).isSome then cnt else cnt + 1) ∧ w.grownBy w' (some b) := by
  obtain ⟨D, h1, h2, h3⟩ := hown
  have hti := h1.tidy K
  obtain ⟨w', hrun, hw, hgr⟩ := h1.update K ht hn hkey (val := val) (d := .held val) (ps := []) rfl
  refine ⟨w', hrun, ?_, hgr⟩
  have hsz := Maps.size_put (k := kl) hti (.held val)
  rw [h3.has, h2] at hsz
  refine ⟨D.put kl (.held val), ?_, hsz, h3.put hti.isMap hlit val⟩
  obtain ⟨es, clock, hb, F, hs, hD⟩ := hw
  refine ⟨es, clock, hb, F, ?_, hD⟩
  rw [← hsz, hD]
  simp only [Maps.size]
  rw [length_sorted]
  simp

section
variable {ops : Array Oper} {rest : List Oper} {o : Oper} {a : Act} {Q : Exit → Act → World → Prop}

/-- 'v, ok := m[x]'. -/
theorem wpl_look_ok (hg : o.guard = none) (m x : Operand) (t : TypeId) (hop : o.op = Op.lookup t m x true)
    (e : TypeId) (K : Keyed P k) (ht : P.underlying t = some (.map k e)) {z : Value} (hz : (zeroValue e).run P w = .ok z w) (hm : a.eval m = .map (some b)) (hown : MapAt w P k b f cnt)
    (key : Value) (kl : Lit) (hx : a.eval x = key) (hkey : keyOf P k key = some kl)
    (hK : wpList P ops Q rest (a.put o.dst (.tuple #[(f kl).getD z, .bool (f kl).isSome])) w) : wpList P ops Q (o :: rest) a w := by
  obtain ⟨D, h1, h2, h3⟩ := hown
  refine Go.wpList_lookup_own_ok w hg m x t hop k e K ht raw hz (.held z) [] rfl b cnt D hm h1 key kl hx hkey fun v ps hv => ?_
  have := raw_inv hv
  rw [h3.at, DataW.held.injEq] at this
  rw [h3.has, ← this]
  exact hK

/-- 'v := m[x]'. -/
theorem wpl_look (hg : o.guard = none) (m x : Operand) (t : TypeId) (hop : o.op = Op.lookup t m x false)
    (e : TypeId) (K : Keyed P k) (ht : P.underlying t = some (.map k e)) {z : Value} (hz : (zeroValue e).run P w = .ok z w) (hm : a.eval m = .map (some b)) (hown : MapAt w P k b f cnt)
    (key : Value) (kl : Lit) (hx : a.eval x = key) (hkey : keyOf P k key = some kl)
    (hK : wpList P ops Q rest (a.put o.dst ((f kl).getD z)) w) : wpList P ops Q (o :: rest) a w := by
  obtain ⟨D, h1, h2, h3⟩ := hown
  refine wpList_plain hg fun K' hK' => ?_
  obtain ⟨v, ps, hrun, hv⟩ := h1.lookup K ht hz (zd := .held z) (zp := []) rfl hkey
  have := raw_inv hv
  rw [h3.at, DataW.held.injEq] at this
  unfold Oper.wp
  simp [execOp, hop, hm, hx, hrun, Result.andThen]
  rw [← this]
  exact hK' _ _ hK

/-- 'len(m)'. -/
theorem wpl_len (hg : o.guard = none) (m : Operand) (t : TypeId) (hop : o.op = Op.call { callee := Callee.builtin Builtin.len, args := #[m], argTypes := #[t] })
    (e : TypeId) (ht : P.underlying t = some (.map k e)) (hm : a.eval m = .map (some b)) (hown : MapAt w P k b f cnt)
    (hK : wpList P ops Q rest (a.put o.dst (.int .i64 cnt)) w) : wpList P ops Q (o :: rest) a w := by
  obtain ⟨D, h1, h2, h3⟩ := hown
  refine Go.wpList_len_own w hg m t hop k e ht raw b cnt D hm h1 ?_
  rw [h2]
  exact hK

/-- 'm[x] = v'. -/
theorem wpl_store (hg : o.guard = none) (m x v : Operand) (t : TypeId) (hop : o.op = Op.mapUpdate t m x v)
    (e : TypeId) (K : Keyed P k) (ht : P.underlying t = some (.map k e)) (hm : a.eval m = .map (some b)) (hown : MapAt w P k b f cnt) (hn : cnt < maxLen)
    (key val : Value) (kl : Lit) (hx : a.eval x = key) (hv : a.eval v = val) (hkey : keyOf P k key = some kl) (hlit : WideAt.IsKeyLit kl)
    (hK : ∀ w', MapAt w' P k b (upd f kl val) (if (f kl).isSome then cnt else cnt + 1) → w.grownBy w' (some b) → wpList P ops Q rest (a.put o.dst undef) w') :
    wpList P ops Q (o :: rest) a w := by
  obtain ⟨D, h1, h2, h3⟩ := hown
  have hti := h1.tidy K
  refine Go.wpList_mapUpdate_own w hg m x v t hop k e K ht raw b cnt D hm h1 hn key val kl hx hv hkey (.held val) [] rfl fun w' hw hgr => ?_
  refine hK w' ?_ hgr
  have hsz := Maps.size_put (k := kl) hti (.held val)
  rw [h3.has, h2] at hsz
  refine ⟨D.put kl (.held val), ?_, hsz, h3.put hti.isMap hlit val⟩
  obtain ⟨es, clock, hb, F, hs, hD⟩ := hw
  refine ⟨es, clock, hb, F, ?_, hD⟩
  rw [← hsz, hD]
  simp only [Maps.size]
  rw [length_sorted]
  simp

/-- 'clear(m)'. -/
theorem wpl_clear (hg : o.guard = none) (m : Operand) (t : TypeId) (hop : o.op = Op.call { callee := Callee.builtin Builtin.clear, args := #[m], argTypes := #[t] })
    (e : TypeId) (ht : P.underlying t = some (.map k e)) (hm : a.eval m = .map (some b)) (hown : MapAt w P k b f cnt)
    (hK : ∀ w', MapAt w' P k b (fun _ => none) 0 → w.grownBy w' (some b) → wpList P ops Q rest (a.put o.dst (.tuple #[])) w') : wpList P ops Q (o :: rest) a w := by
  have hlt := hown.lt
  obtain ⟨es, clock, hb⟩ := hown.obj
  refine wpList_plain hg fun K' hK' => ?_
  have hrun : (Builtin.clear_ #[t] o.type #[.map (some b)]).run P w = .ok (.tuple #[]) (setBlock w b (.map #[] clock)) := by
    simp [Builtin.clear_, run_underlying ht, MapKept.run_getObj_map hb, MapKept.run_setObj_map _ hb, Result.andThen, setBlock]
  unfold Oper.wp
  simp [execOp, hop, resolve, invoke, builtin, hm, hrun, Result.andThen]
  refine hK' _ _ (hK _ ?_ ?_)
  · refine ⟨.map [], ⟨#[], clock, ?_, ⟨by simp, stamped_empty clock, by simp⟩, Nat.le_refl _, rfl⟩, rfl, fun x => rfl⟩
    simp [setBlock, hlt]
  · refine ⟨rfl, rfl, rfl, by simp [setBlock], fun k hk hne => ?_⟩
    have hkb : b ≠ k := by rintro rfl; exact hne rfl
    simp only [setBlock]
    simp [Array.getElem?_setIfInBounds, hkb]

/-- 'm[x] = v' as one step of a drawn region. -/
theorem step_store {K' : Act → World → Prop} {E : Prop} (hg : o.guard = none) (m x v : Operand) (t : TypeId) (hop : o.op = Op.mapUpdate t m x v)
    (e : TypeId) (K : Keyed P k) (ht : P.underlying t = some (.map k e)) (hm : a.eval m = .map (some b)) (hown : MapAt w P k b f cnt) (hn : cnt < maxLen)
    (key val : Value) (kl : Lit) (hx : a.eval x = key) (hv : a.eval v = val) (hkey : keyOf P k key = some kl) (hlit : WideAt.IsKeyLit kl)
    (hK : ∀ w', MapAt w' P k b (upd f kl val) (if (f kl).isSome then cnt else cnt + 1) → w.grownBy w' (some b) → K' (a.put o.dst undef) w') :
    if Region.wanted o (yielded ops a.tmps) = true then Oper.wp P o a w K' Q else E := by
  have hw : Region.wanted o (yielded ops a.tmps) = true := by simp [Region.wanted, hg]
  rw [if_pos hw]
  obtain ⟨w', hrun, h1, h2⟩ := hown.run_store K ht hn hkey hlit (val := val)
  unfold Oper.wp
  simp [execOp, hop, hm, hx, hv, hrun, Result.andThen]
  exact hK w' h1 h2
end
end Go.Proofs.YtcaakiaenfkeaaaGreat.mapkit
/-
  Contracts about slices of bytes: slices.Clone, bytes.Equal, and the helpers Own, Kept, Plain and Bytes.
-/
namespace Go.Proofs.YtcaakiaenfkeaaaGreat.byt
open Go.ChangeShapes Go.WideShapes Go.ChangeAt Go.RowKit
open Go.Proofs.YtcaakiaenfkeaaaGreat.kit
set_option linter.unusedVariables false
set_option linter.unusedSimpArgs false
set_option maxHeartbeats 1000000

def bcells (l : List Nat) : List Value := l.map fun x : Nat => Value.int .u8 (x : Int)
/-- All are bytes. -/
def Byt (l : List Nat) : Prop := ∀ x ∈ l, x < 256
theorem bcells_len (l : List Nat) : (bcells l).length = l.length := by simp [bcells]
theorem bcells_one (l : List Nat) : ∀ u ∈ bcells l, u.oneCell' = true := by
  intro u hu
  simp only [bcells, List.mem_map] at hu
  obtain ⟨n, _, rfl⟩ := hu
  rfl
theorem bcells_get {l : List Nat} {i : Nat} (h : i < l.length) : (bcells l)[i]? = some (.int .u8 (l[i] : Nat)) := by simp [bcells, h]
theorem bcells_append (a b : List Nat) : bcells (a ++ b) = bcells a ++ bcells b := by simp [bcells]
theorem infoByte : (Tryz.prog.info? 5).map (fun i => (i.zero, i.size, i.bytes)) = some (some (.int .u8 0), 1, 1) := by kernel_rfl

theorem owned_some {w : World} {base : Nat} {e : TypeId} {size : Nat} {v : Value} {n : Nat} {xs : List Value} (h : w.ownsRow base e size v n xs) (hn : 0 < n) :
    ∃ g cap, v = .slice (some ⟨g, 0, none⟩) n cap ∧ n ≤ cap ∧ cap ≤ maxLen ∧ base ≤ g ∧ g < w.heap.size := by
  obtain ⟨hlen, h⟩ := h
  rcases h with ⟨rfl, rfl⟩ | ⟨g, cap, cur, rfl, hg, hh, hc, hm, hsz, hx⟩
  · omega
  · exact ⟨g, cap, rfl, hc, hm, hg, (Array.getElem?_eq_some_iff.1 hh).1⟩

/-- What a call hands back: a slice of bytes in memory of its own. -/
def Gives (w : World) (l : List Nat) (e : Ending) (w' : World) : Prop :=
  ∃ v, e = .returned v ∧ w'.ownsRow w.heap.size 5 1 v l.length (bcells l) ∧ Below w.heap.size w w'

theorem clone_nil (w : World) : Calls Tryz.prog 14 #[.slice none 0 0] w fun e w' => e = .returned (.slice none 0 0) ∧ w = w' := by
  have hn := fun w => Lib.run_eql_slice_nil (P := Tryz.prog) w 30 5 none 0 0 0 0 Tryz.underlying30
  go_enter Tryz.func14, Tryz.ntmps14
  go_wp2_with fail
  go_ret
  exact ⟨rfl, rfl⟩

theorem clone_some (l : List Nat) (ad : Addr) (cap : Nat) (w : World) (hl : l.length ≤ 140737488355328) (hat : Lie w (some ad) (bcells l)) :
    Calls Tryz.prog 14 #[.slice (some ad) l.length cap] w (Gives w l) := by
  obtain ⟨i0, hi, hz0, hz1, hz2⟩ := info_parts infoByte
  have hn := fun w => Lib.run_eql_slice_nil (P := Tryz.prog) w 30 5 (some ad) l.length cap 0 0 Tryz.underlying30
  have hown : (w.alloc (.cells #[] 5)).ownsRow w.heap.size 5 1 (.slice (some ⟨w.heap.size, 0, none⟩) 0 0) 0 [] :=
    ⟨rfl, .inr ⟨w.heap.size, 0, #[], rfl, Nat.le_refl _, hp_alloc_new _ _, Nat.le_refl _, by simp [maxLen], rfl, rfl⟩⟩
  have hat' : Lie (w.alloc (.cells #[] 5)) (some ad) (bcells l) := hat.below (below_new1 _ _)
  go_enter Tryz.func14, Tryz.ntmps14
  go_wp2_with (at_builtin; refine wpl_append rfl (.tmp 5) (.tmp 6) 30 rfl w.heap.size 5 i0 (.int .u8 0) 1 1 Tryz.underlying30 hi hz0 hz1 hz2 rfl (by decide) _ 0 [] rfl hown (some ad) l.length cap (bcells l) rfl (by simp) (by simp [bcells]) hat' (bcells_one _) (by unfold maxLen; omega) (by omega) (by rw [size_new]; omega) ?_)
  intro v' w' hown' hgr
  go_wp2_with fail
  go_ret
  refine ⟨v', rfl, ?_, (below_new1 _ _).grown hgr (by rw [size_new]; omega) (fun k hk => (hown.lt k hk).1)⟩
  simpa using hown'

theorem clone_any (l : List Nat) (ao : Option Addr) (cap : Nat) (w : World) (hl : l.length ≤ 140737488355328) (hn : ao = none → l.length = 0 ∧ cap = 0) (hat : Lie w ao (bcells l)) :
    Calls Tryz.prog 14 #[.slice ao l.length cap] w (Gives w l) := by
  cases ao with
  | none =>
    obtain ⟨h1, rfl⟩ := hn rfl
    obtain rfl : l = [] := List.length_eq_zero_iff.1 h1
    refine (clone_nil w).mono fun e w' ⟨he, hw⟩ => ?_
    subst hw
    exact ⟨_, he, World.ownsRow_nil _ _ _ _, Below.refl _ _⟩
  | some ad => exact clone_some l ad cap w hl hat

/-- Two lists of bcells are one. -/
def sameB (a b : List Nat) : Bool := a == b

theorem plain_ne (a b : List Nat) (x y : Option Addr) (cx cy : Nat) (w : World) (h : (a.length == b.length) = false) :
    Calls Tryz.prog 29 #[.slice x a.length cx, .slice y b.length cy] w fun e w' => e = .returned (.bool false) ∧ w = w' := by
  have h' : ((a.length : Int) != (b.length : Int)) = true := by simp at h ⊢; omega
  go_enter Tryz.func29, Tryz.ntmps29
  go_wp2_with fail
  go_ret
  exact ⟨rfl, rfl⟩

theorem plain_nil (x y : Option Addr) (cx cy : Nat) (w : World) :
    Calls Tryz.prog 29 #[.slice x 0 cx, .slice y 0 cy] w fun e w' => e = .returned (.bool (sameB [] [])) ∧ Below w.heap.size w w' := by
  go_enter Tryz.func29, Tryz.ntmps29
  go_wp2_with fail
  refine wp_loop_rounds 1 ?_
  rw [rounds_succ]
  go_wp2_with fail
  go_ret
  exact ⟨rfl, Below.refl _ _⟩

theorem plain_eq (a b : List Nat) (bx ox bz oz cx cy : Nat) (w : World) (hbx : bx < w.heap.size) (hbz : bz < w.heap.size) (h : a.length = b.length) (hl : a.length ≤ 9223372036854775807)
    (hx : ∀ i, i < (bcells a).length → w.cell? ⟨bx, ox + i, none⟩ = (bcells a)[i]?) (hy : ∀ i, i < (bcells b).length → w.cell? ⟨bz, oz + i, none⟩ = (bcells b)[i]?) :
    Calls Tryz.prog 29 #[.slice (some ⟨bx, ox, none⟩) a.length cx, .slice (some ⟨bz, oz, none⟩) b.length cy] w
      fun e w' => e = .returned (.bool (sameB a b)) ∧ Below w.heap.size w w' := by
  have HX := Lib.hid hx
  have HY := Lib.hid hy
  have HE := Lib.hid h
  rw [← h]
  have hne : ((a.length : Int) != (a.length : Int)) = false := by simp
  clear hx hy h
  go_enter Tryz.func29, Tryz.ntmps29
  go_wp2_with fail
  go_loopw [5] (fun i wr => ∃ k : Nat, k ≤ a.length ∧ i = .int .i64 k ∧ Below w.heap.size w wr ∧ Hid (a.take k = b.take k)) (fun i _ => a.length - (intOf i).toNat)
  case atStart => exact ⟨0, Nat.zero_le _, rfl, Below.refl _ _, rfl⟩
  case round =>
    obtain ⟨k, hk, rfl, hb, hT⟩ := hrel
    by_cases hlt : k < a.length
    · have hlb : k < b.length := by have := HE.out; omega
      have hx' : wr.cell? ⟨bx, ox + k, none⟩ = some (.int .u8 (a[k] : Nat)) := by rw [hb.cell (by exact hbx), HX.out k (by rw [bcells_len]; exact hlt), bcells_get hlt]
      have hy' : wr.cell? ⟨bz, oz + k, none⟩ = some (.int .u8 (b[k] : Nat)) := by rw [hb.cell (by exact hbz), HY.out k (by rw [bcells_len]; exact hlb), bcells_get hlb]
      obtain ⟨p, hp⟩ : ∃ p, p = a[k] := ⟨_, rfl⟩
      obtain ⟨q, hq⟩ : ∃ q, q = b[k] := ⟨_, rfl⟩
      rw [← hp] at hx'
      rw [← hq] at hy'
      have c1 : decide ((k : Int) < (a.length : Int)) = true := by simpa using hlt
      have HP := Lib.hid hp
      have HQ := Lib.hid hq
      have HLB := Lib.hid hlb
      clear hp hq
      by_cases hpq : p = q
      · have hne' : ((p : Int) != (q : Int)) = false := by simp [hpq]
        have hT' : Hid (a.take (k + 1) = b.take (k + 1)) := by
          simp only [Hid]
          rw [List.take_succ_eq_append_getElem hlt, List.take_succ_eq_append_getElem hlb, hT.out, ← HP.out, ← HQ.out, hpq]
        clear hpq hT
        go_wp2_with fail
        go_quiet (fail)
        go_wp2_with fail
        go_roundw
        case rel => exact ⟨k + 1, by omega, by go_num, below_drewN hb _, hT'⟩
        case measure => simp [intOf]; omega
      · have hne' : ((p : Int) != (q : Int)) = true := by simp; omega
        have HS : Hid (sameB a b = false) := by
          simp only [Hid, sameB, beq_eq_false_iff_ne]
          intro e
          apply hpq
          rw [HP.out, HQ.out]
          simp [e]
        clear hpq hT
        go_wp2_with fail
        go_quiet (fail)
        go_wp2_with fail
        go_ret
        exact ⟨by rw [HS.out]; rfl, below_drewN hb _⟩
    · have HS : Hid (sameB a b = true) := by
        have := hT.out
        have h := HE.out
        rw [List.take_of_length_le (by omega), List.take_of_length_le (by omega)] at this
        simp [Hid, sameB, this]
      clear hT
      go_wp2_with fail
      go_ret
      exact ⟨by rw [HS.out]; rfl, hb⟩

theorem plain_any (a b : List Nat) (x y : Option Addr) (cx cy : Nat) (w : World) (hl : a.length ≤ 9223372036854775807) (hx : Lie w x (bcells a)) (hy : Lie w y (bcells b)) :
    Calls Tryz.prog 29 #[.slice x a.length cx, .slice y b.length cy] w fun e w' => e = .returned (.bool (sameB a b)) ∧ Below w.heap.size w w' := by
  by_cases h : a.length = b.length
  · rcases hx with h0 | ⟨bx, ox, rfl, hbx, hx⟩
    · obtain rfl : a = [] := by simpa [bcells] using h0
      obtain rfl : b = [] := List.length_eq_zero_iff.1 h.symm
      exact plain_nil x y cx cy w
    · rcases hy with h0 | ⟨bz, oz, rfl, hbz, hy⟩
      · obtain rfl : b = [] := by simpa [bcells] using h0
        obtain rfl : a = [] := List.length_eq_zero_iff.1 h
        exact plain_nil _ y cx cy w
      · exact plain_eq a b bx ox bz oz cx cy w hbx hbz h hl hx hy
  · have hs : sameB a b = false := by
      simp only [sameB, beq_eq_false_iff_ne]
      rintro rfl
      exact h rfl
    rw [hs]
    refine (plain_ne a b x y cx cy w (by simpa using h)).mono fun e w' ⟨he, hw⟩ => ⟨he, hw ▸ Below.refl _ _⟩

theorem bytes_any (a b : List Nat) (x y : Option Addr) (cx cy : Nat) (w : World) (hl : a.length ≤ 9223372036854775807) (hx : Lie w x (bcells a)) (hy : Lie w y (bcells b)) :
    Calls Tryz.prog 11 #[.slice x a.length cx, .slice y b.length cy] w fun e w' => e = .returned (.bool (sameB a b)) ∧ Below w.heap.size w w' := by
  go_enter Tryz.func11, Tryz.ntmps11
  go_wp2_with (go_at_call 29; refine (plain_any a b x y cx cy _ hl hx hy).mono ?_; rintro e w1 ⟨rfl, hb⟩)
  go_ret
  exact ⟨rfl, hb⟩
end Go.Proofs.YtcaakiaenfkeaaaGreat.byt
/-
  An acceptor's votes as data: a sorted list; the map that holds them; an acceptor in memory.
-/
namespace Go.Proofs.YtcaakiaenfkeaaaGreat.accd
open Go.ChangeShapes Go.WideShapes Go.ChangeAt Go.RowKit
open Go.Maps (Keyed)
open Go.ChangeMaps Go.MapKept
open Go.Proofs.YtcaakiaenfkeaaaGreat.kit Go.Proofs.YtcaakiaenfkeaaaGreat.mapkit Go.Proofs.YtcaakiaenfkeaaaGreat.byt Go.Proofs.YtcaakiaenfkeaaaGreat.own
set_option linter.unusedVariables false
set_option linter.unusedSimpArgs false
set_option maxHeartbeats 1000000
set_option maxRecDepth 100000

/-- A vote as it lies: slot, ballot, value. -/
structure Vt where
  s : Int
  r : Int
  n : Int
  l : List Nat
  a : Option Addr
  c : Nat
/-- What a vote says. -/
structure V4 where
  s : Int
  r : Int
  n : Int
  l : List Nat
deriving DecidableEq
def lv (v : Vt) : V4 := ⟨v.s, v.r, v.n, v.l⟩
def Vt.cells (v : Vt) : List Value := [.int .i64 v.s, .int .i64 v.r, .int .i64 v.n, .slice v.a v.l.length v.c]
def Vt.val (v : Vt) : Value := .agg #[.int .i64 v.s, .int .i64 v.r, .int .i64 v.n, .slice v.a v.l.length v.c]
def vcells (vs : List Vt) : List Value := vs.flatMap Vt.cells
/-- A vote's value lies in memory of its own. -/
def Body (w : World) (base : Nat) (v : Vt) : Prop := w.ownsRow base 5 1 (.slice v.a v.l.length v.c) v.l.length (bcells v.l)
theorem body_lie {w : World} {base : Nat} {v : Vt} (h : Body w base v) : Lie w v.a (bcells v.l) ∧ (v.a = none → v.l.length = 0 ∧ v.c = 0) := by
  obtain ⟨ao, cap, e, h1, h2, h3⟩ := owned_lie h
  simp only [Value.slice.injEq, true_and] at e
  obtain ⟨rfl, rfl⟩ := e
  exact ⟨h2, h1⟩

/-- The map that a list of votes is. -/
def look (vs : List Vt) : Lit → Option Value
  | .int .i64 s => (vs.find? (fun v => v.s == s)).map Vt.val
  | _ => none
/-- v in its place. -/
def put (vs : List Vt) (v : Vt) : List Vt := vs.filter (fun x => x.s < v.s) ++ v :: vs.filter (fun x => v.s < x.s)
def Ord (vs : List Vt) : Prop := vs.Pairwise fun x y => x.s < y.s

theorem find_filter {α : Type} (p q : α → Bool) : ∀ l : List α, (l.filter p).find? q = l.find? (fun a => p a && q a)
  | [] => rfl
  | u :: l => by
    rw [List.filter_cons, List.find?_cons]
    cases hp : p u with
    | true => simp only [if_true, List.find?_cons, Bool.true_and]; rw [find_filter p q l]
    | false => simp only [Bool.false_eq_true, if_false, Bool.false_and]; exact find_filter p q l
theorem look_upd (vs : List Vt) (v : Vt) : upd (look vs) (.int .i64 v.s) v.val = look (put vs v) := by
  funext y
  cases y with
  | int k x =>
    by_cases hk : k = .i64
    · subst hk
      show (if (Lit.int .i64 x).sameKey (.int .i64 v.s) = true then some v.val else (vs.find? (fun u => u.s == x)).map Vt.val) = ((put vs v).find? (fun u => u.s == x)).map Vt.val
      have e : (Lit.int .i64 x).sameKey (.int .i64 v.s) = decide (x = v.s) := by simp [Lit.sameKey]
      rw [e, put, List.find?_append, List.find?_cons, find_filter, find_filter]
      by_cases hx : x = v.s
      · subst hx
        have h1 : vs.find? (fun u => decide (u.s < v.s) && u.s == v.s) = none := by
          rw [List.find?_eq_none]
          intro u hu
          simp only [Bool.and_eq_true, decide_eq_true_eq, beq_iff_eq]
          omega
        rw [h1]
        simp
      · have hx1 : (v.s == x) = false := by simp; omega
        simp only [hx, decide_false, Bool.false_eq_true, if_false, hx1]
        rcases Int.lt_or_gt_of_ne hx with h | h
        · have h1 : vs.find? (fun u => decide (u.s < v.s) && u.s == x) = vs.find? (fun u => u.s == x) := by
            congr 1
            funext u
            by_cases hu : u.s = x
            · simp [hu, h]
            · simp [hu]
          have h2 : vs.find? (fun u => decide (v.s < u.s) && u.s == x) = none := by
            rw [List.find?_eq_none]
            intro u hu
            simp only [Bool.and_eq_true, decide_eq_true_eq, beq_iff_eq]
            omega
          rw [h1, h2]
          simp
        · have h1 : vs.find? (fun u => decide (v.s < u.s) && u.s == x) = vs.find? (fun u => u.s == x) := by
            congr 1
            funext u
            by_cases hu : u.s = x
            · simp [hu, h]
            · simp [hu]
          have h2 : vs.find? (fun u => decide (u.s < v.s) && u.s == x) = none := by
            rw [List.find?_eq_none]
            intro u hu
            simp only [Bool.and_eq_true, decide_eq_true_eq, beq_iff_eq]
            omega
          rw [h1, h2]
          simp
    · have h1 : ∀ f, look f (.int k x) = none := fun f => by cases k <;> first | rfl | exact absurd rfl hk
      have h2 : (Lit.int k x).sameKey (.int .i64 v.s) = false := by simp [Lit.sameKey, hk]
      simp [upd, h1, h2]
  | bool x => rfl
  | string x => rfl
  | _ => rfl

theorem filter_split (vs : List Vt) (s : Int) (h : Ord vs) : vs.length = (vs.filter (fun x => x.s < s)).length + (vs.filter (fun x => s < x.s)).length + (if (vs.find? (fun u => u.s == s)).isSome then 1 else 0) := by
  induction vs with
  | nil => rfl
  | cons u vs ih =>
    have hu := List.pairwise_cons.1 h
    have ih := ih hu.2
    rw [List.filter_cons, List.filter_cons, List.find?_cons]
    rcases Int.lt_trichotomy u.s s with h1 | h1 | h1
    · have e : (u.s == s) = false := by simp; omega
      simp only [h1, decide_true, if_true, show ¬ s < u.s by omega, decide_false, Bool.false_eq_true, if_false, e, List.length_cons]
      omega
    · subst h1
      have e : vs.find? (fun x => x.s == u.s) = none := by
        rw [List.find?_eq_none]
        intro x hx
        have := hu.1 x hx
        simp; omega
      rw [e] at ih
      simp only [show ¬ u.s < u.s by omega, decide_false, Bool.false_eq_true, if_false, beq_self_eq_true, List.length_cons]
      simp at ih ⊢
      omega
    · have e : (u.s == s) = false := by simp; omega
      simp only [h1, decide_true, if_true, show ¬ u.s < s by omega, decide_false, Bool.false_eq_true, if_false, e, List.length_cons]
      omega
theorem put_length (vs : List Vt) (v : Vt) (h : Ord vs) : (put vs v).length = if (look vs (.int .i64 v.s)).isSome then vs.length else vs.length + 1 := by
  have hs := filter_split vs v.s h
  rw [put, List.length_append, List.length_cons]
  show _ = if ((vs.find? (fun u => u.s == v.s)).map Vt.val).isSome then _ else _
  rw [Option.isSome_map]
  split
  · rename_i hx; rw [if_pos hx] at hs; omega
  · rename_i hx; rw [if_neg hx] at hs; omega
theorem put_ord {vs : List Vt} (v : Vt) (h : Ord vs) : Ord (put vs v) := by
  refine List.pairwise_append.2 ⟨List.Pairwise.filter _ h, List.pairwise_cons.2 ⟨?_, List.Pairwise.filter _ h⟩, ?_⟩
  · intro x hx
    simpa using (List.mem_filter.1 hx).2
  · intro x hx y hy
    have h1 : x.s < v.s := by simpa using (List.mem_filter.1 hx).2
    rcases List.mem_cons.1 hy with e | hy
    · rw [e]; exact h1
    · have h2 : v.s < y.s := by simpa using (List.mem_filter.1 hy).2
      omega
theorem put_mem {vs : List Vt} {v x : Vt} (h : x ∈ put vs v) : x = v ∨ x ∈ vs := by
  rcases List.mem_append.1 h with h | h
  · exact .inr (List.mem_filter.1 h).1
  · rcases List.mem_cons.1 h with h | h
    · exact .inl h
    · exact .inr (List.mem_filter.1 h).1
/-- A sorted list of slots within sixteen places holds sixteen at most. -/
theorem ord_len' (hi : Int) : ∀ (vs : List Vt) (lo : Int), lo ≤ hi → Ord vs → (∀ v ∈ vs, lo ≤ v.s ∧ v.s < hi) → (vs.length : Int) ≤ hi - lo
  | [], lo, h, _, _ => by simp; omega
  | u :: vs, lo, h, ho, hr => by
    have hu := List.pairwise_cons.1 ho
    have h1 := hr u (by simp)
    have := ord_len' hi vs (u.s + 1) (by omega) hu.2 (fun v hv => by
      have := hu.1 v hv
      have := hr v (List.mem_cons_of_mem _ hv)
      omega)
    simp only [List.length_cons]
    omega
theorem ord_len {first : Int} {vs : List Vt} (h : Ord vs) (hr : ∀ v ∈ vs, first ≤ v.s ∧ v.s < first + 16) : vs.length ≤ 16 := by
  have := ord_len' (first + 16) vs first (by omega) h hr
  omega
/-- All but the one of a slot. -/
def del (vs : List Vt) (s : Int) : List Vt := vs.filter (fun v => v.s != s)
def dele (f : Lit → Option Value) (x y : Lit) : Option Value := if y.sameKey x = true then none else f y
theorem look_del (vs : List Vt) (s : Int) : dele (look vs) (.int .i64 s) = look (del vs s) := by
  funext y
  cases y with
  | int k x =>
    by_cases hk : k = .i64
    · subst hk
      show (if (Lit.int .i64 x).sameKey (.int .i64 s) = true then none else (vs.find? (fun u => u.s == x)).map Vt.val) = ((del vs s).find? (fun u => u.s == x)).map Vt.val
      have e : (Lit.int .i64 x).sameKey (.int .i64 s) = decide (x = s) := by simp [Lit.sameKey]
      rw [e, del, find_filter]
      by_cases hx : x = s
      · subst hx
        have h1 : vs.find? (fun u => u.s != x && u.s == x) = none := by
          rw [List.find?_eq_none]
          intro u hu
          simp only [Bool.and_eq_true, bne_iff_ne, beq_iff_eq]
          omega
        rw [h1]
        simp
      · have h1 : vs.find? (fun u => u.s != s && u.s == x) = vs.find? (fun u => u.s == x) := by
          congr 1
          funext u
          by_cases hu : u.s = x
          · simp [hu, hx]
          · simp [hu]
        rw [h1]
        simp [hx]
    · have h1 : ∀ f, look f (.int k x) = none := fun f => by cases k <;> first | rfl | exact absurd rfl hk
      have h2 : (Lit.int k x).sameKey (.int .i64 s) = false := by simp [Lit.sameKey, hk]
      simp [dele, h1, h2]
  | bool x => rfl
  | string x => rfl
  | _ => rfl
theorem del_length (vs : List Vt) (s : Int) (h : Ord vs) : (del vs s).length + (if (look vs (.int .i64 s)).isSome then 1 else 0) = vs.length := by
  show _ + (if ((vs.find? (fun u => u.s == s)).map Vt.val).isSome then 1 else 0) = _
  rw [Option.isSome_map]
  induction vs with
  | nil => rfl
  | cons u vs ih =>
    have hu := List.pairwise_cons.1 h
    have ih := ih hu.2
    rw [del, List.filter_cons, List.find?_cons]
    by_cases h1 : u.s = s
    · subst h1
      have e : vs.find? (fun x => x.s == u.s) = none := by
        rw [List.find?_eq_none]
        intro x hx
        have := hu.1 x hx
        simp; omega
      rw [e] at ih
      simp [del] at ih ⊢
      exact ih
    · have e : (u.s == s) = false := by simpa using h1
      have e2 : (u.s != s) = true := by simpa using h1
      simp only [e, e2, if_true, List.length_cons]
      have ih : (List.filter (fun v => v.s != s) vs).length + _ = _ := ih
      omega

theorem keyedI : Keyed Tryz.prog 3 := Go.Maps.int_keyed Tryz.underlying3
theorem key_int {s : Int} (h1 : -9223372036854775808 ≤ s) (h2 : s ≤ 9223372036854775807) : keyOf Tryz.prog 3 (.int .i64 s) = some (.int .i64 s) := by
  have hw : (Lit.int .i64 s).wf = true := WalkArith.wf_i64 (by omega)
  simp [keyOf, Tryz.underlying3, mapKey, hw]
theorem votes_store {w : World} {mb : Nat} {vs : List Vt} (h : MapAt w Tryz.prog 3 mb (look vs) vs.length) (ho : Ord vs) (hl : vs.length ≤ 16) (v : Vt) (h1 : -9223372036854775808 ≤ v.s) (h2 : v.s ≤ 9223372036854775807) :
    ∃ w', (Instr.mapUpdate 103 (.map (some mb)) (.int .i64 v.s) v.val).run Tryz.prog w = .ok () w' ∧ MapAt w' Tryz.prog 3 mb (look (put vs v)) (put vs v).length ∧ w.grownBy w' (some mb) := by
  obtain ⟨w', hr, hm, hg⟩ := h.run_store keyedI Tryz.underlying103 (by unfold maxLen; omega) (key_int h1 h2) (val := v.val) (by trivial)
  refine ⟨w', hr, ?_, hg⟩
  rw [look_upd] at hm
  rw [put_length vs v ho]
  exact hm
theorem votes_delete {w : World} {mb : Nat} {vs : List Vt} (h : MapAt w Tryz.prog 3 mb (look vs) vs.length) (ho : Ord vs) (s : Int) (h1 : -9223372036854775808 ≤ s) (h2 : s ≤ 9223372036854775807) (ty : TypeId) :
    ∃ w', (Builtin.delete_ #[103, 3] ty #[.map (some mb), .int .i64 s]).run Tryz.prog w = .ok (.tuple #[]) w' ∧ MapAt w' Tryz.prog 3 mb (look (del vs s)) (del vs s).length ∧ w.grownBy w' (some mb) := by
  obtain ⟨D, hD, hn, hs⟩ := h
  have hti := hD.tidy keyedI
  obtain ⟨w', hr, hw, hg⟩ := hD.drop keyedI Tryz.underlying103 (key_int h1 h2) ty
  refine ⟨w', hr, ?_, hg.grown⟩
  have hsz := Go.Maps.size_del (k := .int .i64 s) hti
  rw [hs.has, hn] at hsz
  have hdl := del_length vs s ho
  have hsz2 : Go.Maps.size (D.del (.int .i64 s)) = (del vs s).length := by omega
  refine ⟨D.del (.int .i64 s), ?_, hsz2, ?_⟩
  · obtain ⟨es, clock, hb, F, hs', hD'⟩ := hw
    refine ⟨es, clock, hb, F, ?_, hD'⟩
    rw [← hsz2, hD']
    simp only [Go.Maps.size]
    rw [length_sorted]
    simp
  · rw [← look_del]
    intro y
    by_cases e : y = .int .i64 s
    · subst e
      rw [show dele (look vs) (.int .i64 s) (.int .i64 s) = none by simp [dele, Lit.sameKey]]
      exact Go.Maps.has_del_same
    · rw [show dele (look vs) (.int .i64 s) y = look vs y by simp [dele, Go.Maps.sameKey_ne e]]
      have := hs y
      cases hf : look vs y with
      | none => rw [hf] at this; simp only at this ⊢; rw [Go.Maps.has_del_other e]; exact this
      | some u => rw [hf] at this; simp only at this ⊢; rw [Go.Maps.has_del_other e]; exact ⟨this.1, fun z => by rw [Go.Maps.atKey_del_other e]; exact this.2 z⟩

/-- An acceptor in memory: its block b, its map mb; the votes' values lie at base and beyond. -/
structure AccAt (w : World) (base b mb : Nat) (r n first : Int) (vs : List Vt) : Prop where
  blk : w.heap[b]? = some (.cells #[.int .i64 r, .int .i64 n, .int .i64 first, .map (some mb)] 105 (0, 0))
  map : MapAt w Tryz.prog 3 mb (look vs) vs.length
  lo : base ≤ b ∧ base ≤ mb
  ord : Ord vs
  one : 1 ≤ first ∧ first ≤ 1099511627776
  rng : ∀ v ∈ vs, first ≤ v.s ∧ v.s < first + 16
  fit : ∀ v ∈ vs, v.l.length ≤ 2048
  bodies : ∀ v ∈ vs, Body w base v
theorem AccAt.len {w : World} {base b mb : Nat} {r n first : Int} {vs : List Vt} (h : AccAt w base b mb r n first vs) : vs.length ≤ 16 := ord_len h.ord h.rng
theorem AccAt.below {w w' : World} {base b mb : Nat} {r n first : Int} {vs : List Vt} (h : AccAt w base b mb r n first vs) (hb : Below w.heap.size w w') : AccAt w' base b mb r n first vs :=
  ⟨hp_step h.blk hb, h.map.below hb, h.lo, h.ord, h.one, h.rng, h.fit, fun v hv => own_below (h.bodies v hv) hb⟩
theorem AccAt.ne {w : World} {base b mb : Nat} {r n first : Int} {vs : List Vt} (h : AccAt w base b mb r n first vs) : b ≠ mb := by
  intro e
  obtain ⟨es, cl, hm⟩ := h.map.obj
  rw [← e, h.blk] at hm
  simp at hm
/-- Rows of other types stay while an acceptor's own two blocks turn. -/
theorem AccAt.row {w w' : World} {base b mb : Nat} {r n first : Int} {vs : List Vt} (h : AccAt w base b mb r n first vs) (hk : Keep (fun k => k = b ∨ k = mb) w w') {bs : Nat} {e : TypeId} {size m c : Nat} {a : Option Addr} {xs : List Value}
    (hr : w.ownsRow bs e size (.slice a m c) m xs) (he : e ≠ 105) : w'.ownsRow bs e size (.slice a m c) m xs := by
  refine own_kept hr (fun g hg => ?_)
  obtain ⟨cur, hcur⟩ := own_heap hr g hg
  refine hk.block g (own_from hr g hg).2 (fun hx => ?_)
  rcases hx with hx | hx
  · exact own_ne hr h.blk (fun e' => he e'.symm) g hg hx
  · obtain ⟨es, cl, hm⟩ := h.map.obj
    rw [← hx, hcur] at hm
    simp at hm
end Go.Proofs.YtcaakiaenfkeaaaGreat.accd
/-
  What a new leader reads out of promises, as data (no program in sight): the votes for a slot by rising nodes.
-/
namespace Go.Proofs.YtcaakiaenfkeaaaGreat.chp
set_option linter.unusedVariables false
set_option linter.unusedSimpArgs false
set_option maxHeartbeats 400000

/-- A vote: its slot, its ballot, its value. -/
structure V where
  s : Int
  r : Int
  n : Int
  d : List Nat
deriving DecidableEq
/-- A promise: whose, and its votes. -/
structure Pr where
  node : Int
  vs : List V
/-- The votes of a promise for a slot, each with its node. -/
def at_ (slot : Int) (p : Pr) : List (Int × V) := (p.vs.filter (fun v => decide (v.s = slot))).map (fun v => (p.node, v))
/-- The document's way: node by node. -/
def forS (l : List Pr) (slot : Int) : List (Int × V) := ([1, 2, 3, 4, 5] : List Int).flatMap (fun n => (l.filter (fun p => decide (p.node = n))).flatMap (at_ slot))
/-- The leader's way: the promises sorted by their nodes. -/
def cutS (l : List Pr) (slot : Int) : List (Int × V) := l.flatMap (at_ slot)

theorem fm_congr {α β : Type} {l : List α} {f g : α → List β} (h : ∀ x ∈ l, f x = g x) : l.flatMap f = l.flatMap g := by
  induction l with
  | nil => rfl
  | cons x l ih => rw [List.flatMap_cons, List.flatMap_cons, h x List.mem_cons_self, ih (fun y hy => h y (List.mem_cons_of_mem _ hy))]
theorem flatMap_nodes {β : Type} (f : Pr → List β) : ∀ (ns : List Int) (s : List Pr), ns.Pairwise (· < ·) → s.Pairwise (fun a b => a.node < b.node) → (∀ p ∈ s, p.node ∈ ns) →
    ns.flatMap (fun n => (s.filter (fun p => decide (p.node = n))).flatMap f) = s.flatMap f
  | [], s, _, _, h => by
    cases s with
    | nil => rfl
    | cons p s => exact absurd (h p List.mem_cons_self) (by simp)
  | n :: ns, s, hn, hs, h => by
    have hn' := List.pairwise_cons.1 hn
    cases s with
    | nil => simp
    | cons p s =>
      have hs' := List.pairwise_cons.1 hs
      rw [List.flatMap_cons]
      by_cases e : p.node = n
      · have h0 : s.filter (fun q => decide (q.node = n)) = [] := by
          refine List.filter_eq_nil_iff.2 (fun q hq => ?_)
          have := hs'.1 q hq
          simp; omega
        have h1 : ∀ q ∈ s, q.node ∈ ns := by
          intro q hq
          rcases List.mem_cons.1 (h q (List.mem_cons_of_mem _ hq)) with h2 | h2
          · have := hs'.1 q hq; omega
          · exact h2
        have ih := flatMap_nodes f ns s hn'.2 hs'.2 h1
        have h2 : ns.flatMap (fun n' => ((p :: s).filter (fun q => decide (q.node = n'))).flatMap f) = ns.flatMap (fun n' => (s.filter (fun q => decide (q.node = n'))).flatMap f) := by
          have h3 : ∀ n' ∈ ns, ((p :: s).filter (fun q => decide (q.node = n'))) = s.filter (fun q => decide (q.node = n')) := by
            intro n' hn2
            have := hn'.1 n' hn2
            rw [List.filter_cons_of_neg (by simp; omega)]
          exact fm_congr (fun n' hn2 => by rw [h3 n' hn2])
        rw [List.filter_cons_of_pos (by simpa using e), h0, h2, ih]
        simp
      · have hp : p.node ∈ ns := by
          rcases List.mem_cons.1 (h p List.mem_cons_self) with h2 | h2
          · exact absurd h2 e
          · exact h2
        have hlt := hn'.1 _ hp
        have h1 : ∀ q ∈ p :: s, q.node ∈ ns := by
          intro q hq
          rcases List.mem_cons.1 (h q hq) with h2 | h2
          · rcases List.mem_cons.1 hq with rfl | hq2
            · exact absurd h2 e
            · have := hs'.1 q hq2; omega
          · exact h2
        have h0 : (p :: s).filter (fun q => decide (q.node = n)) = [] := by
          refine List.filter_eq_nil_iff.2 (fun q hq => ?_)
          have : n < q.node := by
            rcases List.mem_cons.1 hq with rfl | hq2
            · exact hlt
            · have := hs'.1 q hq2; omega
          simp; omega
        rw [h0, flatMap_nodes f ns (p :: s) hn'.2 hs h1]
        rfl

/-- One node's promises: there is one at most, so their order plays no part. -/
theorem filter_perm {l s : List Pr} (hp : l.Perm s) (hs : s.Pairwise (fun a b => a.node < b.node)) (n : Int) : l.filter (fun p => decide (p.node = n)) = s.filter (fun p => decide (p.node = n)) := by
  have h1 := hp.filter (fun p => decide (p.node = n))
  have h2 : (s.filter (fun p => decide (p.node = n))).Pairwise (fun a b => a.node < b.node) := hs.filter _
  have h3 : ∀ p ∈ s.filter (fun p => decide (p.node = n)), p.node = n := fun p hp => of_decide_eq_true (List.mem_filter.1 hp).2
  cases e : s.filter (fun p => decide (p.node = n)) with
  | nil => rw [e] at h1; exact h1.eq_nil
  | cons x t =>
    cases t with
    | nil => rw [e] at h1; exact List.perm_singleton.1 h1
    | cons y t =>
      rw [e] at h2 h3
      have h4 := (List.pairwise_cons.1 h2).1 y List.mem_cons_self
      have h5 := h3 x List.mem_cons_self
      have h6 := h3 y (List.mem_cons_of_mem _ List.mem_cons_self)
      omega
/-- Both ways tell the same votes in the same order. -/
theorem for_cut {l s : List Pr} (hp : l.Perm s) (hs : s.Pairwise (fun a b => a.node < b.node)) (hn : ∀ p ∈ s, 1 ≤ p.node ∧ p.node ≤ 5) (slot : Int) : forS l slot = cutS s slot := by
  unfold forS cutS
  rw [← flatMap_nodes (at_ slot) [1, 2, 3, 4, 5] s (by decide) hs (fun p hp => by
    have := hn p hp
    have h : p.node = 1 ∨ p.node = 2 ∨ p.node = 3 ∨ p.node = 4 ∨ p.node = 5 := by omega
    simpa using h)]
  exact fm_congr (fun n _ => by rw [filter_perm hp hs n])

def lessB (r1 n1 r2 n2 : Int) : Bool := decide (r1 < r2) || (decide (r1 = r2) && decide (n1 < n2))
/-- The first of the greatest: ballot.Best's round. -/
def pick (b : Option (Int × V)) (c : Int × V) : Option (Int × V) :=
  match b with
  | none => some c
  | some x => if lessB x.2.r x.2.n c.2.r c.2.n then some c else some x
/-- The document's round: the greatest ballot so far, and its value. -/
def stp (b : Int × Int × List Nat) (c : Int × V) : Int × Int × List Nat := if lessB b.1 b.2.1 c.2.r c.2.n then (c.2.r, c.2.n, c.2.d) else b
def outB : Option (Int × V) → Int × Int × List Nat
  | none => (0, 0, [])
  | some c => (c.2.r, c.2.n, c.2.d)
theorem stp_pick (b : Option (Int × V)) (c : Int × V) (h : lessB 0 0 c.2.r c.2.n = true) : stp (outB b) c = outB (pick b c) := by
  cases b with
  | none => simp [stp, outB, pick, h]
  | some x =>
    cases h2 : lessB x.2.r x.2.n c.2.r c.2.n <;> simp [stp, outB, pick, h2]
theorem best_doc (l : List (Int × V)) : ∀ b, (∀ c ∈ l, lessB 0 0 c.2.r c.2.n = true) → l.foldl stp (outB b) = outB (l.foldl pick b) := by
  induction l with
  | nil => intro b _; rfl
  | cons c l ih =>
    intro b h
    rw [List.foldl_cons, List.foldl_cons, stp_pick b c (h c List.mem_cons_self)]
    exact ih _ (fun d hd => h d (List.mem_cons_of_mem _ hd))
/-- The document's round in Chosen: only those that a majority has. -/
theorem fold_filter (P : Int × V → Bool) (l : List (Int × V)) : ∀ b, l.foldl (fun b c => if P c && lessB b.1 b.2.1 c.2.r c.2.n then (c.2.r, c.2.n, c.2.d) else b) b = (l.filter P).foldl stp b := by
  induction l with
  | nil => intro b; rfl
  | cons c l ih =>
    intro b
    rw [List.foldl_cons, ih]
    cases h : P c with
    | true => rw [List.filter_cons_of_pos h, List.foldl_cons]; simp [stp]
    | false => rw [List.filter_cons_of_neg (by simp [h])]; simp
theorem pick_some (l : List (Int × V)) : ∀ x, ∃ y, l.foldl pick (some x) = some y ∧ (y = x ∨ y ∈ l) := by
  induction l with
  | nil => intro x; exact ⟨x, rfl, .inl rfl⟩
  | cons c l ih =>
    intro x
    rw [List.foldl_cons, show pick (some x) c = if lessB x.2.r x.2.n c.2.r c.2.n then some c else some x from rfl]
    cases h : lessB x.2.r x.2.n c.2.r c.2.n with
    | true =>
      obtain ⟨y, h1, h2⟩ := ih c
      refine ⟨y, h1, .inr ?_⟩
      rcases h2 with rfl | h2
      · exact List.mem_cons_self
      · exact List.mem_cons_of_mem _ h2
    | false =>
      obtain ⟨y, h1, h2⟩ := ih x
      refine ⟨y, h1, ?_⟩
      rcases h2 with rfl | h2
      · exact .inl rfl
      · exact .inr (List.mem_cons_of_mem _ h2)
theorem pick_none {l : List (Int × V)} : l.foldl pick none = none ↔ l = [] := by
  cases l with
  | nil => simp
  | cons c l =>
    obtain ⟨y, h1, -⟩ := pick_some l c
    have : (c :: l).foldl pick none = some y := h1
    simp [this]
/-- Was one chosen? The document looks whether the greatest ballot is the zero one. -/
theorem out_zero {l : List (Int × V)} (h : ∀ c ∈ l, lessB 0 0 c.2.r c.2.n = true) : ((outB (l.foldl pick none)).1 = 0 ∧ (outB (l.foldl pick none)).2.1 = 0) ↔ l = [] := by
  constructor
  · intro h1
    cases l with
    | nil => rfl
    | cons c l =>
      obtain ⟨y, h2, h3⟩ := pick_some l c
      have h4 : (c :: l).foldl pick none = some y := h2
      rw [h4] at h1
      have h5 : y ∈ c :: l := by
        rcases h3 with rfl | h3
        · exact List.mem_cons_self
        · exact List.mem_cons_of_mem _ h3
      have h6 := h y h5
      have h7 : y.2.r = 0 ∧ y.2.n = 0 := h1
      rw [h7.1, h7.2] at h6
      simp [lessB] at h6
  · rintro rfl
    exact ⟨rfl, rfl⟩

/-- Sorted by their nodes they stand in one way alone. -/
theorem srt_one {l s : List Pr} (hp : l.Perm s) (hl : l.Pairwise (fun a b => a.node < b.node)) (hs : s.Pairwise (fun a b => a.node < b.node)) : l = s := by
  induction s generalizing l with
  | nil => exact hp.eq_nil
  | cons x s ih =>
    cases l with
    | nil => exact absurd hp.symm.eq_nil (by simp)
    | cons y l =>
      have hx := List.pairwise_cons.1 hs
      have hy := List.pairwise_cons.1 hl
      have e : y = x := by
        rcases List.mem_cons.1 (hp.mem_iff.1 List.mem_cons_self) with e | h1
        · exact e
        · rcases List.mem_cons.1 (hp.symm.mem_iff.1 (List.mem_cons_self (a := x) (l := s))) with e | h2
          · exact e.symm
          · have h3 := hx.1 y h1
            have h4 := hy.1 x h2
            omega
      subst e
      rw [ih hp.cons_inv hy.2 hx.2]
def lastOk (nodes : Int) : Int → List V → Bool
  | _, [] => true
  | last, v :: vs => decide (last < v.s) && decide (v.s ≤ 1099511627776) && decide (1 ≤ v.r) && decide (1 ≤ v.n) && decide (v.n ≤ nodes) && lastOk nodes v.s vs
/-- One promise of right ones. -/
def prOk (nodes : Int) (p : Pr) : Bool := decide (1 ≤ p.node) && decide (p.node ≤ nodes) && decide (p.vs.length ≤ 16) && lastOk nodes 0 p.vs
/-- P11.1. -/
def Right (nodes : Int) (l : List Pr) : Prop := (1 ≤ nodes ∧ nodes ≤ 5) ∧ (∀ p ∈ l, prOk nodes p = true) ∧ l.Pairwise (fun a b => a.node ≠ b.node)
theorem right_perm {nodes : Int} {l s : List Pr} (hp : l.Perm s) : Right nodes l ↔ Right nodes s := by
  unfold Right
  refine and_congr_right (fun _ => and_congr ⟨fun h p hp2 => h p (hp.mem_iff.2 hp2), fun h p hp2 => h p (hp.mem_iff.1 hp2)⟩ ?_)
  exact List.Perm.pairwise_iff (fun {a b} h e => h e.symm) hp
theorem lastOk_lt {nodes : Int} : ∀ {vs : List V} {last : Int}, lastOk nodes last vs = true → (∀ v ∈ vs, last < v.s ∧ v.s ≤ 1099511627776 ∧ 1 ≤ v.r ∧ 1 ≤ v.n ∧ v.n ≤ nodes) ∧ vs.Pairwise (fun a b => a.s < b.s)
  | [], _, _ => ⟨by simp, List.Pairwise.nil⟩
  | v :: vs, last, h => by
    simp only [lastOk, Bool.and_eq_true, decide_eq_true_eq] at h
    obtain ⟨⟨⟨⟨⟨h1, h2⟩, h3⟩, h4⟩, h5⟩, h6⟩ := h
    obtain ⟨h7, h8⟩ := lastOk_lt h6
    refine ⟨fun x hx => ?_, List.pairwise_cons.2 ⟨fun x hx => (h7 x hx).1, h8⟩⟩
    rcases List.mem_cons.1 hx with rfl | hx
    · exact ⟨h1, h2, h3, h4, h5⟩
    · have := h7 x hx
      exact ⟨by omega, this.2.1, this.2.2.1, this.2.2.2.1, this.2.2.2.2⟩
end Go.Proofs.YtcaakiaenfkeaaaGreat.chp
