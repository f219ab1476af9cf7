/-
  Promises that come in as an argument: rows over rows over bytes.
-/
import Derived.Test.YtodoncmielfbeaaChA
namespace Go.Proofs.Ytodoncmielfbeaa.chl
open Go.ChangeShapes Go.WideShapes Go.ChangeAt Go.RowKit Go.Joins
open Go.Proofs.Ytodoncmielfbeaa.kit Go.Proofs.Ytodoncmielfbeaa.byt Go.Proofs.Ytodoncmielfbeaa.own Go.Proofs.Ytodoncmielfbeaa.accd Go.Proofs.Ytodoncmielfbeaa.chd
set_option linter.unusedVariables false
set_option linter.unusedSimpArgs false
set_option maxHeartbeats 4000000
set_option maxRecDepth 100000

section
variable {H : Type} {enc : TypeId × Value → H} {P : Program}
theorem elem_ints {W : World} {t e : TypeId} {k : IntKind} {v : Value} {n : Nat} {y : DataW H × List MemPlace}
    (hs : P.underlying t = some (.slice e)) (he : P.underlying e = some (.int k)) (hC : P.cellsOf e = 1)
    (hf : DataW.trod enc P W 0 (fun _ => true) true n t [v] = some y) :
    ∃ (a : Option Addr) (l : List Int) (cap : Nat), v = .slice a l.length cap ∧ l.length ≤ cap ∧ cap ≤ maxLen ∧ (a = none → l.length = 0 ∧ cap = 0) ∧ Lie W a (l.map (Value.int k)) ∧ (∀ n ∈ l, (Lit.int k n).wf = true) := by
  rcases open_ints hs he hC hf with ⟨hcs, hx⟩ | ⟨a, len', cap', zs, hcs, _, hl, hm, hz, hx, hcell, hwz⟩
  · simp at hcs
    subst hcs
    exact ⟨none, [], 0, rfl, Nat.le_refl _, by simp [maxLen], by simp, .inl rfl, by simp⟩
  · simp at hcs
    subst hcs
    simp only [if_true] at hz
    have hlen : (zs.take len').length = len' := by simp; omega
    refine ⟨some a, zs.take len', cap', by rw [hlen], by omega, hm, by simp, ?_, fun n hn => hwz n (List.mem_of_mem_take hn)⟩
    by_cases h0 : len' = 0
    · left; simp [h0]
    · right
      obtain ⟨b, off, rfl, hc⟩ := ints_at hcell (by omega)
      refine ⟨b, off, rfl, cell_lt (hc 0 (by omega)), fun i hi => ?_⟩
      simp only [List.length_map, hlen] at hi
      rw [hc i (by omega)]
      simp [List.getElem?_take, hi]
      rw [List.getElem?_eq_getElem (by omega)]
      simp
end
theorem byte_wf {l : List Int} (h : ∀ n ∈ l, (Lit.int .u8 n).wf = true) : ∀ x ∈ l, 0 ≤ x ∧ x < 256 := by
  intro x hx
  have := h x hx
  simp [Lit.wf, IntKind.min, IntKind.max, IntKind.signed, IntKind.bits] at this
  omega
theorem int_wf {s : Int} (h : (Lit.int .i64 s).wf = true) : -9223372036854775808 ≤ s ∧ s ≤ 9223372036854775807 := by
  simp [Lit.wf, IntKind.min, IntKind.max, IntKind.signed, IntKind.bits] at h
  omega
theorem nat_list (l : List Int) (h : ∀ x ∈ l, 0 ≤ x ∧ x < 256) : ∃ m : List Nat, l = m.map (fun x : Nat => (x : Int)) ∧ byt.Byt m := by
  induction l with
  | nil => exact ⟨[], rfl, by intro x hx; simp at hx⟩
  | cons x l ih =>
    obtain ⟨m, rfl, hm⟩ := ih fun y hy => h y (List.mem_cons_of_mem _ hy)
    have hx := h x (List.mem_cons_self ..)
    refine ⟨x.toNat :: m, by simp; omega, fun y hy => ?_⟩
    rcases List.mem_cons.1 hy with rfl | hy
    · omega
    · exact hm y hy
theorem bcells_of (m : List Nat) : (m.map (fun x : Nat => (x : Int))).map (Value.int .u8) = byt.bcells m := by simp [byt.bcells]
theorem list5 {α : Type} {l : List α} (h : l.length = 5) : ∃ a b c d e, l = [a, b, c, d, e] := by
  match l, h with | [a, b, c, d, e], _ => exact ⟨a, b, c, d, e, rfl⟩
theorem list4' {α : Type} {l : List α} (h : l.length = 4) : ∃ a b c d, l = [a, b, c, d] := by
  match l, h with | [a, b, c, d], _ => exact ⟨a, b, c, d, rfl⟩
theorem list2 {α : Type} {l : List α} (h : l.length = 2) : ∃ a b, l = [a, b] := by
  match l, h with | [a, b], _ => exact ⟨a, b, rfl⟩

section
variable {H : Type} {enc : TypeId × Value → H} {P : Program}
theorem elem_intsD {W : World} {t e : TypeId} {k : IntKind} {v : Value} {n : Nat} {y : DataW H × List MemPlace}
    (hs : P.underlying t = some (.slice e)) (he : P.underlying e = some (.int k)) (hC : P.cellsOf e = 1)
    (hf : DataW.trod enc P W 0 (fun _ => true) true n t [v] = some y) {a : Option Addr} {m cap : Nat} (hv : v = .slice a m cap) : m = 0 ∨ ∃ es sp, y.1 = .slice es sp ∧ es.length = m := by
  rcases open_ints hs he hC hf with ⟨hcs, hx⟩ | ⟨a, len', cap', zs, hcs, _, hl, hm, hz, hx, hcell, hwz⟩
  · simp at hcs
    rw [hcs] at hv
    simp only [Value.slice.injEq] at hv
    exact .inl hv.2.1.symm
  · simp at hcs
    rw [hcs] at hv
    simp only [Value.slice.injEq] at hv
    simp only [if_true] at hz
    subst hx
    refine .inr ⟨_, _, rfl, ?_⟩
    simp [lits]
    omega
end
/-- A ballot's two cells. -/
theorem ballot_cells {H : Type} {enc : TypeId × Value → H} {W : World} {n : Nat} {u v : Value} {y : DataW H × List MemPlace} (h : DataW.trod enc Try.prog W 0 (fun _ => true) true n 43 [u, v] = some y) : ∃ r m : Int, u = .int .i64 r ∧ v = .int .i64 m := by
  obtain ⟨ys, n', hy, hyl, hcl, hf⟩ := struct_cells Try.underlying43 (by kernel_rfl) (by kernel_rfl) h
  obtain ⟨v0, z0, e0, g0, t0⟩ := hf 0 _ rfl
  obtain ⟨v1, z1, e1, g1, t1⟩ := hf 1 _ rfl
  obtain ⟨a, ea, _, wa⟩ := DataW.trod_int Try.underlying3 t0
  obtain ⟨b, eb, _, wb⟩ := DataW.trod_int Try.underlying3 t1
  simp at e0 e1 ea eb
  subst e0 e1 ea eb
  exact ⟨a, b, rfl, rfl⟩
def DataV {H : Type} (o : Vt) (d : DataW H) : Prop :=
  ∃ d0 d1 d2, d = .agg [d0, d1, d2] ∧ (o.l = [] ∨ ∃ es sp, d2 = .slice es sp ∧ es.length = o.l.length)
theorem list3' {α : Type} {l : List α} (h : l.length = 3) : ∃ a b c, l = [a, b, c] := by
  match l, h with | [a, b, c], _ => exact ⟨a, b, c, rfl⟩
theorem elem_vote {H : Type} {enc : TypeId × Value → H} {W : World} (n : Nat) (cs : List Value) (y : DataW H × List MemPlace) (h : DataW.trod enc Try.prog W 0 (fun _ => true) true n 45 cs = some y) :
    ∃ o : Vt, cs = o.cells ∧ ((Lie W o.a (bcells o.l) ∧ (o.a = none → o.l.length = 0 ∧ o.c = 0) ∧ (-9223372036854775808 ≤ o.s ∧ o.s ≤ 9223372036854775807) ∧ Byt o.l) ∧ DataV o y.1) := by
  obtain ⟨ys, n', hn', hy, hlen, hyl, hf⟩ := DataW.trod_struct Try.underlying45 h
  rw [show Try.prog.cellsOf 45 = 4 by kernel_rfl] at hlen
  obtain ⟨c0, c1, c2, c3, rfl⟩ := list4' hlen
  obtain ⟨y0, y1, y2, rfl⟩ := list3' (hyl.trans (by kernel_rfl))
  have t0 := hf 0 _ rfl
  have t1 := hf 1 _ rfl
  have t2 := hf 2 _ rfl
  have k1 : Try.prog.cellsOf 3 = 1 := by kernel_rfl
  have k2 : Try.prog.cellsOf 43 = 2 := by kernel_rfl
  have k3 : Try.prog.cellsOf 37 = 1 := by kernel_rfl
  change DataW.trod enc Try.prog W 0 (fun _ => true) true n' 3 (List.take (Try.prog.cellsOf 3) (List.drop 0 [c0, c1, c2, c3])) = some y0 at t0
  change DataW.trod enc Try.prog W 0 (fun _ => true) true n' 43 (List.take (Try.prog.cellsOf 43) (List.drop 1 [c0, c1, c2, c3])) = some y1 at t1
  change DataW.trod enc Try.prog W 0 (fun _ => true) true n' 37 (List.take (Try.prog.cellsOf 37) (List.drop 3 [c0, c1, c2, c3])) = some y2 at t2
  rw [k1] at t0
  rw [k2] at t1
  rw [k3] at t2
  change DataW.trod enc Try.prog W 0 (fun _ => true) true n' 3 [c0] = some y0 at t0
  change DataW.trod enc Try.prog W 0 (fun _ => true) true n' 43 [c1, c2] = some y1 at t1
  change DataW.trod enc Try.prog W 0 (fun _ => true) true n' 37 [c3] = some y2 at t2
  obtain ⟨a, ea, _, wa⟩ := DataW.trod_int Try.underlying3 t0
  obtain ⟨r, m, er, em⟩ := ballot_cells t1
  obtain ⟨ad, l, cap, ed, hlc, hcm, hnil, hlie, hwf⟩ := elem_ints Try.underlying37 Try.underlying5 (by kernel_rfl) t2
  have hD := elem_intsD Try.underlying37 Try.underlying5 (by kernel_rfl) t2 ed
  obtain ⟨q, rfl, hq⟩ := nat_list l (byte_wf hwf)
  rw [bcells_of] at hlie
  simp only [List.length_map] at *
  simp at ea
  subst ea er em ed
  refine ⟨⟨a, r, m, q, ad, cap⟩, rfl, ⟨hlie, hnil, int_wf wa, hq⟩, ?_⟩
  refine ⟨_, _, _, by rw [hy]; rfl, ?_⟩
  rcases hD with h0 | ⟨es, sp, h1, h2⟩
  · exact .inl (List.length_eq_zero_iff.1 h0)
  · exact .inr ⟨es, sp, h1, h2⟩
theorem weights_all {H : Type} {P : Program} {t : TypeId} {n : Nat} : ∀ {ds : List (DataW H)} {d : DataW H}, d ∈ ds → n ∈ d.weights P t → n ∈ DataW.weightsAll P t ds
  | d0 :: ds, d, hd, hn => by
    simp only [DataW.weightsAll, List.mem_append]
    rcases List.mem_cons.1 hd with rfl | hd
    · exact .inl hn
    · exact .inr (weights_all hd hn)

section
variable {H : Type} {enc : TypeId × Value → H} {P : Program}
/-- A slice of whatever elements that came in: 'ev' says which cells an element is, 'good' what is known of it. -/
theorem slice_elem {α : Type} {W : World} {t e : TypeId} {v : Value} {fu : Nat} {y : DataW H × List MemPlace} (size : Nat) (ev : α → List Value) (good : α → DataW H → Prop)
    (ht : P.underlying t = some (.slice e)) (hC : P.cellsOf e = size) (hpos : 0 < size)
    (helem : ∀ (n : Nat) (cs : List Value) (y : DataW H × List MemPlace), cs.length = size → DataW.trod enc P W 0 (fun _ => true) true n e cs = some y → ∃ x, cs = ev x ∧ good x y.1)
    (hf : DataW.trod enc P W 0 (fun _ => true) true fu t [v] = some y) :
    ∃ (a : Option Addr) (l : List α) (cap : Nat) (ds sp : List (DataW H)), v = .slice a l.length cap ∧ l.length ≤ cap ∧ cap ≤ maxLen ∧ (a = none → l.length = 0 ∧ cap = 0) ∧ RowsAt W a size (l.map ev) ∧
      (y.1 = .nil ∧ l = [] ∧ ds = [] ∧ sp = [] ∨ y.1 = .slice ds sp) ∧ ds.length = l.length ∧ l.length + sp.length = cap ∧ ∀ i (hi : i < l.length) (hj : i < ds.length), good l[i] ds[i] := by
  rcases Go.Deep.open_slice ht hf with ⟨hcs, hx⟩ | ⟨a, len, cap, m, n, D, Pl, hcs, _, hl, hm, hmm, hx, hi⟩
  · simp only [List.cons.injEq, and_true] at hcs
    subst hcs
    exact ⟨none, [], 0, [], [], rfl, Nat.le_refl _, by simp [maxLen], by simp, .inl rfl, .inl ⟨by rw [hx], rfl, rfl, rfl⟩, rfl, rfl, fun i hi => absurd hi (by simp)⟩
  · simp only [List.cons.injEq, and_true] at hcs
    subst hcs
    simp only [if_true] at hmm
    subst hmm
    have key : ∀ i, i < len → ∃ x : α, good x (D i) ∧ W.cells? 0 (a.add (i * P.cellsOf e)) (P.cellsOf e) = some (ev x) := by
      intro i hil
      obtain ⟨cs', hc, htr⟩ := hi i (by omega)
      obtain ⟨_, hcl, _⟩ := World.cells?_some hc
      obtain ⟨x, rfl, hg⟩ := helem n cs' _ (hcl.trans hC) htr
      exact ⟨x, hg, hc⟩
    obtain ⟨l, hll, hlp⟩ := list_choose len key
    refine ⟨some a, l, m, (List.range len).map D, (List.range (m - len)).map (fun j => D (len + j)), by rw [hll], by omega, hm, by simp, ?_, .inr (by rw [hx]), by simp [hll], by simp; omega, fun i h1 h2 => ?_⟩
    · by_cases h0 : l = []
      · left; simp [h0]
      · right
        have hlen : 0 < l.length := List.length_pos_iff.2 h0
        have hspot : a.spot = none ∧ a.block < W.heap.size := by
          have h1 := (hlp 0 hlen).2
          obtain ⟨_, hcl, hat⟩ := World.cells?_some h1
          have h2 := hat 0 (by omega)
          rw [Nat.zero_mul] at h2
          have e0 : a.add 0 = a := by simp [Addr.add]
          rw [e0, e0] at h2
          have h3 : (ev l[0])[0]? = some ((ev l[0])[0]'(by omega)) := List.getElem?_eq_getElem (by omega)
          rw [h3] at h2
          refine ⟨?_, cell_lt h2⟩
          unfold World.cell? at h2
          cases hb : W.heap[a.block]? with
          | none => simp [hb] at h2
          | some o =>
            cases o <;> simp [hb] at h2
            cases hs : a.spot with
            | none => rfl
            | some x => simp [hs] at h2
        obtain ⟨b, off, spot⟩ := a
        obtain ⟨rfl, hbl⟩ : spot = none ∧ b < W.heap.size := hspot
        refine ⟨b, off, rfl, hbl, fun i hi' j hj => ?_⟩
        simp only [List.length_map] at hi'
        have h1 := (hlp i hi').2
        obtain ⟨_, hcl, hat⟩ := World.cells?_some h1
        have h2 := hat j (by omega)
        have ea : ((⟨b, off, none⟩ : Addr).add (i * P.cellsOf e)).add j = ⟨b, off + i * size + j, none⟩ := by
          rw [hC]
          unfold Addr.add
          by_cases z1 : i * size = 0 <;> by_cases z2 : j = 0 <;> simp [z1, z2]
        rw [ea] at h2
        rw [h2]
        simp
    · have := (hlp i h1).1
      simpa using this

end
/-- A promise's reading. -/
def DataP {H : Type} (o : Pt) (d : DataW H) : Prop :=
  ∃ d0 d1, d = .agg [d0, d1] ∧ (o.vs = [] ∨ ∃ es sp, d1 = .slice es sp ∧ es.length = o.vs.length ∧ ∀ i (hi : i < o.vs.length) (hj : i < es.length), DataV o.vs[i] es[i])
theorem list2' {α : Type} {l : List α} (h : l.length = 2) : ∃ a b, l = [a, b] := by
  match l, h with | [a, b], _ => exact ⟨a, b, rfl⟩
theorem elem_prom {H : Type} {enc : TypeId × Value → H} {W : World} (n : Nat) (cs : List Value) (y : DataW H × List MemPlace) (h : DataW.trod enc Try.prog W 0 (fun _ => true) true n 36 cs = some y) :
    ∃ o : Pt, cs = o.cells ∧ ((RowsAt W o.a 4 (o.vs.map Vt.cells) ∧ (∀ v ∈ o.vs, Lie W v.a (bcells v.l) ∧ (v.a = none → v.l.length = 0 ∧ v.c = 0) ∧ (-9223372036854775808 ≤ v.s ∧ v.s ≤ 9223372036854775807) ∧ Byt v.l) ∧ (o.a = none → o.vs.length = 0 ∧ o.c = 0) ∧ (-9223372036854775808 ≤ o.node ∧ o.node ≤ 9223372036854775807)) ∧ DataP o y.1) := by
  obtain ⟨ys, n', hn', hy, hlen, hyl, hf⟩ := DataW.trod_struct Try.underlying36 h
  rw [show Try.prog.cellsOf 36 = 2 by kernel_rfl] at hlen
  obtain ⟨c0, c1, rfl⟩ := list2' hlen
  obtain ⟨y0, y1, rfl⟩ := list2' (hyl.trans (by kernel_rfl))
  have t0 := hf 0 _ rfl
  have t1 := hf 1 _ rfl
  have k1 : Try.prog.cellsOf 3 = 1 := by kernel_rfl
  have k2 : Try.prog.cellsOf 34 = 1 := by kernel_rfl
  change DataW.trod enc Try.prog W 0 (fun _ => true) true n' 3 (List.take (Try.prog.cellsOf 3) (List.drop 0 [c0, c1])) = some y0 at t0
  change DataW.trod enc Try.prog W 0 (fun _ => true) true n' 34 (List.take (Try.prog.cellsOf 34) (List.drop 1 [c0, c1])) = some y1 at t1
  rw [k1] at t0
  rw [k2] at t1
  change DataW.trod enc Try.prog W 0 (fun _ => true) true n' 3 [c0] = some y0 at t0
  change DataW.trod enc Try.prog W 0 (fun _ => true) true n' 34 [c1] = some y1 at t1
  obtain ⟨a, ea, _, wa⟩ := DataW.trod_int Try.underlying3 t0
  obtain ⟨av, l, cap, ds, sp, rfl, hlc, hcm, hnil, hrow, hd, hdl, hsp, hgood⟩ := slice_elem 4 Vt.cells (fun o d => (Lie W o.a (bcells o.l) ∧ (o.a = none → o.l.length = 0 ∧ o.c = 0) ∧ (-9223372036854775808 ≤ o.s ∧ o.s ≤ 9223372036854775807) ∧ Byt o.l) ∧ DataV o d) Try.underlying34 (by kernel_rfl) (by omega) (fun n cs y _ h => elem_vote n cs y h) t1
  simp at ea
  subst ea
  refine ⟨⟨a, l, av, cap⟩, rfl, ⟨hrow, fun v hv => ?_, hnil, int_wf wa⟩, ?_⟩
  · obtain ⟨k, hk, rfl⟩ := List.getElem_of_mem hv
    have hk2 : k < l.length := hk
    exact (hgood k hk2 (by omega)).1
  · refine ⟨_, _, by rw [hy]; rfl, ?_⟩
    rcases hd with ⟨-, h0, -, -⟩ | h0
    · exact .inl h0
    · exact .inr ⟨ds, sp, h0, hdl, fun i hi hj => (hgood i hi hj).2⟩
theorem reach_le {n : Nat} (h : decide (n ≤ reachBytes) = true) : n ≤ 140737488351232 := of_decide_eq_true h
/-- An argument that is a list of promises. -/
theorem open_prs {H : Type} {enc : TypeId × Value → H} {W : World} {r : Reach} {b0 : Nat} {v : Value} {d : DataW H} {p : List MemPlace} {ts : List TypeId} {es : List (DataW H)} {j : Nat}
    (hv : Value.okWide Try.prog W r b0 22 v) (h : DataW.Trod enc Try.prog W 0 (fun _ => true) true 22 v d p)
    (hsz : (DataW.weightsEach Try.prog ts es).all (· ≤ reachBytes) = true) (ht : ts[j]? = some 22) (he : es[j]? = some d) :
    ∃ (a : Option Addr) (l : List Pt) (c : Nat), v = .slice a l.length c ∧ RowP W a l := by
  obtain ⟨a, l, cap, ds, sp, rfl, hlc, hcm, hn, hat, hd, hel, hsp, hgood⟩ := open_slice_gen 2 Pt.cells (fun o d => (RowsAt W o.a 4 (o.vs.map Vt.cells) ∧ (∀ v ∈ o.vs, Lie W v.a (bcells v.l) ∧ (v.a = none → v.l.length = 0 ∧ v.c = 0) ∧ (-9223372036854775808 ≤ v.s ∧ v.s ≤ 9223372036854775807) ∧ Byt v.l) ∧ (o.a = none → o.vs.length = 0 ∧ o.c = 0) ∧ (-9223372036854775808 ≤ o.node ∧ o.node ≤ 9223372036854775807)) ∧ DataP o d) Try.underlying22 (by kernel_rfl) (by omega) (fun n cs y _ h => elem_prom n cs y h) hv h
  have e1 : Try.prog.bytesOf 5 = 1 := by kernel_rfl
  have e48 : Try.prog.bytesOf 45 = 48 := by kernel_rfl
  have e32 : Try.prog.bytesOf 36 = 32 := by kernel_rfl
  refine ⟨a, l, cap, rfl, hat, fun q hq => ?_, ?_⟩
  · obtain ⟨k, hk, rfl⟩ := List.getElem_of_mem hq
    obtain ⟨⟨g1, g2, g3, g4⟩, d0, d1, hdk, hvd⟩ := hgood k hk (by omega)
    rcases hd with ⟨_, rfl, _, _⟩ | rfl
    · simp at hk
    · have hk2 : k < ds.length := by omega
      have hkd : ds[k]? = some (.agg [d0, d1]) := by rw [List.getElem?_eq_getElem hk2, hdk]
      have hin : ∀ n, n ∈ d1.weights Try.prog 34 → n ≤ 140737488351232 := by
        intro n hn
        have hw : n ∈ (DataW.agg [d0, d1] : DataW H).weights Try.prog 36 := by
          simp only [DataW.weights, DataW.weightsEach, Try.underlying36, List.mem_append]
          simp [DataW.weightsEach, hn]
        have hw2 := weights_all (List.mem_of_getElem? hkd) hw
        have hw3 : n ∈ (DataW.slice ds sp : DataW H).weights Try.prog 22 := by
          simp only [DataW.weights, Try.underlying22, List.mem_cons, List.mem_append]
          exact .inr (.inl hw2)
        exact reach_le (List.all_eq_true.1 hsz _ (DataW.weights_mem_each ht he _ hw3))
      refine ⟨⟨g1, fun x hx => ?_, ?_⟩, g3, g4⟩
      · obtain ⟨f1, f2, f3, f4⟩ := g2 x hx
        refine ⟨f1, f2, ?_, f4, f3⟩
        rcases hvd with h0 | ⟨es', sp', rfl, hl', hv'⟩
        · rw [h0] at hx; simp at hx
        · obtain ⟨i, hi, rfl⟩ := List.getElem_of_mem hx
          obtain ⟨q0, q1, q2, hq3, hq4⟩ := hv' i hi (by omega)
          rcases hq4 with h0 | ⟨es2, sp2, rfl, hl2⟩
          · rw [h0]; simp
          · have hi2 : es'[i]? = some (.agg [q0, q1, .slice es2 sp2]) := by rw [List.getElem?_eq_getElem (by omega), hq3]
            have hw : (es2.length + sp2.length) * Try.prog.bytesOf 5 ∈ (DataW.agg [q0, q1, DataW.slice es2 sp2] : DataW H).weights Try.prog 45 := by
              simp [DataW.weights, DataW.weightsEach, Try.underlying45, Try.underlying37]
            have hw2 := weights_all (List.mem_of_getElem? hi2) hw
            have hw3 : (es2.length + sp2.length) * Try.prog.bytesOf 5 ∈ (DataW.slice es' sp' : DataW H).weights Try.prog 34 := by
              simp only [DataW.weights, Try.underlying34, List.mem_cons, List.mem_append]
              exact .inr (.inl hw2)
            have h9 := hin _ hw3
            rw [e1, Nat.mul_one] at h9
            omega
      · rcases hvd with h0 | ⟨es', sp', rfl, hl', hv'⟩
        · rw [h0]; simp
        · have hw3 : (es'.length + sp'.length) * Try.prog.bytesOf 45 ∈ (DataW.slice es' sp' : DataW H).weights Try.prog 34 := by
            simp only [DataW.weights, Try.underlying34, List.mem_cons, List.mem_append]
            exact .inl trivial
          have h9 := hin _ hw3
          rw [e48] at h9
          omega
  · rcases hd with ⟨_, rfl, _, _⟩ | rfl
    · simp
    · have hw3 : (ds.length + sp.length) * Try.prog.bytesOf 36 ∈ (DataW.slice ds sp : DataW H).weights Try.prog 22 := by
        simp only [DataW.weights, Try.underlying22, List.mem_cons, List.mem_append]
        exact .inl trivial
      have h9 := reach_le (List.all_eq_true.1 hsz _ (DataW.weights_mem_each ht he _ hw3))
      rw [e32] at h9
      omega
end Go.Proofs.Ytodoncmielfbeaa.chl
