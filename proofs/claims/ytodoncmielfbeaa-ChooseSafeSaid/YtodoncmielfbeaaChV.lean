/-
  slices.Values, AppendSeq, Collect at promises.
-/
import Derived.Test.YtodoncmielfbeaaChE
import Derived.Test.YtodoncmielfbeaaTel
namespace Go.Proofs.Ytodoncmielfbeaa.chv
open Go.ChangeShapes Go.WideShapes Go.ChangeAt Go.RowKit Go.Shelf
open Go.Proofs.Ytodoncmielfbeaa.kit Go.Proofs.Ytodoncmielfbeaa.own Go.Proofs.Ytodoncmielfbeaa.accd Go.Proofs.Ytodoncmielfbeaa.chd Go.Proofs.Ytodoncmielfbeaa.che Go.Proofs.Ytodoncmielfbeaa.tel
set_option linter.unusedVariables false
set_option linter.unusedSimpArgs false
set_option maxHeartbeats 1000000
set_option maxRecDepth 100000
attribute [local go_sem] Oper.semAt_some

theorem infoProm : (Try.prog.info? 36).map (fun i => (i.zero, i.size, i.bytes)) = some (some (.agg #[.int .i64 0, .slice none 0 0]), 2, 32) := by kernel_rfl
theorem pcells_len (p : Pt) : p.cells.length = 2 := rfl
def pcells (l : List Pt) : List Value := l.flatMap Pt.cells
theorem lie_new2' (w : World) (T : TypeId) (x y : Value) : Lie (w.alloc (.cells #[x, y] T)) (some ⟨w.heap.size, 0, none⟩) [x, y] := by
  refine .inr ⟨_, 0, rfl, by rw [size_new]; omega, fun i hi => ?_⟩
  have hb := (kit.blk (hp_alloc_new w (.cells #[x, y] T))).1
  rw [Nat.zero_add, hb]
  match i, hi with
  | 0, _ => rfl
  | 1, _ => rfl
theorem lie_adds {w : World} {ad : Addr} {news : List Value} (hlie : Lie w (some ad) news) : ∀ j u, news[j]? = some u → w.cell? (ad.add j) = some u := by
  intro j u hj
  rcases hlie with rfl | ⟨b, off, e1, hb, hc⟩
  · simp at hj
  · simp only [Option.some.injEq] at e1
    subst e1
    have hjl : j < news.length := (List.getElem?_eq_some_iff.1 hj).1
    have := hc j hjl
    rw [hj] at this
    unfold Addr.add
    split
    · next h0 => subst h0; simpa using this
    · exact this
/-- Where the promises lie that a sequence goes through. -/
def SrcP (w : World) (hi B : Nat) (a : Option Addr) (c : Nat) (l : List Pt) : Prop :=
  w.cell? ⟨B, 0, none⟩ = some (.slice a l.length c) ∧ ∀ k (hk : k < l.length), ∃ g off, a = some ⟨g, off, none⟩ ∧ g < hi ∧ w.cell? ⟨g, off + k * 2, none⟩ = some (.int .i64 l[k].node) ∧ w.cell? ⟨g, off + k * 2 + 1, none⟩ = some (.slice l[k].a l[k].vs.length l[k].c)
theorem SrcP.keep {w w' : World} {hi B c : Nat} {a : Option Addr} {l : List Pt} (h : SrcP w hi B a c l) (hB : B < hi) (hk : ∀ j, j < hi → w'.heap[j]? = w.heap[j]?) : SrcP w' hi B a c l :=
  ⟨(cell_same (hk B hB)).trans h.1, fun k hk' => by
    obtain ⟨g, off, e, hg, h1, h2⟩ := h.2 k hk'
    exact ⟨g, off, e, hg, (cell_same (hk g hg)).trans h1, (cell_same (hk g hg)).trans h2⟩⟩

/-- The closure of slices.Values: it tells all, one behind the other. -/
theorem vals_it (n : Nat) (hn : 1 ≤ n) (hi B : Nat) (a : Option Addr) (c : Nat) (l : List Pt) (w : World) (hB : B < hi) (hhi : hi ≤ w.heap.size) (hl : l.length ≤ 5) (h : SrcP w hi B a c l) :
    Tells Fence.wide n Try.prog 66 #[.pointer (some ⟨B, 0, none⟩)] (fun x : Pt => #[x.val]) (Between 0 hi) (fun pre x _ => pre ++ [x] <+: l) (fun xs => xs = l) w := by
  intro lb J W hW hJ hY h0
  have HS : Hid (∀ wr, Between 0 hi W wr → SrcP wr hi B a c l) := fun wr hb => h.keep hB (fun j hj => (hb.2 j (Nat.zero_le _) hj).trans (hW.block j (by omega)))
  have HY := Lib.hid hY
  have HJ := Lib.hid hJ
  have hs : hi ≤ W.heap.size := by have := hW.size; omega
  have c1 := (HS.out W (Between.refl _ _ _)).1
  have z1 : B < W.heap.size := by omega
  clear h hY hJ hW
  refine callsIn_of_wp Try.func66 rfl trivial ?_ rfl
  simp only [Try.ntmps66, List.size_toArray, List.length_cons, List.length_nil, Nat.reduceAdd, Nat.reduceSub, Array.replicate_succ, Array.replicate_zero, List.push_toArray, List.append_toArray, List.nil_append, List.cons_append]
  gi_wp2
  gi_loopw [7] (fun i wr => ∃ k : Nat, k ≤ l.length ∧ i = .int .i64 k ∧ J (l.take k) wr ∧ Between 0 hi W wr)
    (fun i _ => l.length - (intOf i).toNat)
  case atStart => exact ⟨0, Nat.zero_le _, rfl, h0, Between.refl _ _ _⟩
  case round =>
    obtain ⟨k, hk, rfl, hJs, hb⟩ := hrel
    have HB := Lib.hid hb
    have d2 := (HS.out wr hb).2
    by_cases hlt : k < l.length
    · obtain ⟨g, off, rfl, hgz, r0, r1⟩ := d2 k hlt
      have hgw : g < wr.heap.size := by have := hb.1; omega
      have hpre : l.take (k + 1) = l.take k ++ [l[k]] := List.take_succ_eq_append_getElem hlt
      have hgood : l.take k ++ [l[k]] <+: l := by rw [← hpre]; exact List.take_prefix _ _
      obtain ⟨p, hp⟩ : ∃ p, p = l[k] := ⟨_, rfl⟩
      rw [← hp] at r0 r1 hpre hgood
      obtain ⟨wA, hwA⟩ : ∃ wA : World, wA = wr.alloc (.cells #[.int .i64 p.node, .slice p.a p.vs.length p.c] 36) := ⟨_, rfl⟩
      have hbA : Below wr.heap.size wr wA := by rw [hwA]; exact below_new1 _ _
      have hJ2 := HJ.out (l.take k) wr wA none hJs ⟨hbA.os, hbA.tape, hbA.output, hbA.size, fun j hj _ => hbA.block j hj⟩ (by simp)
      have hka : Between 0 hi W wA := HB.out.trans (Between.of_below hbA (by have := HB.out.1; omega))
      rw [hwA] at hka
      have HKA := Lib.hid hka
      have HSU := Lib.hid hpre
      have HWA := Lib.hid hwA
      obtain ⟨fn, tmps, assign, body, hy, hR⟩ := HY.out (l.take k) p wA hJ2 hgood
      rw [hwA] at hy hR
      dsimp only [Pt.val] at hy
      clear d2 hb hp hbA hka hwA hJ2 hgood hpre
      gi_wp2
      refine hR.mono ?_
      rintro e W3 ⟨rfl, hJ3, hk3⟩
      have HK3 := Lib.hid (HKA.out.trans hk3)
      clear hk3
      gi_wp2
      go_roundw
      case rel => exact ⟨k + 1, by omega, by go_num, by rw [HSU.out]; exact hJ3, HK3.out⟩
      case measure => simp [intOf]; omega
    · obtain rfl : k = l.length := by omega
      rw [List.take_length] at hJs
      clear d2
      gi_wp2
      exact bodyPost_end (v := .tuple #[]) (by simp [results, Try.results66, go_sem]) rfl ⟨⟨_, rfl⟩, _, rfl, hJs⟩

theorem pcells_snoc (l : List Pt) (p : Pt) : pcells (l ++ [p]) = pcells l ++ p.cells := by simp [pcells]
theorem append_ok (B hi : Nat) (a : Option Addr) (c : Nat) (l : List Pt) (w : World) (hB : B < hi) (hhi : hi ≤ w.heap.size) (hl : l.length ≤ 5) (h : SrcP w hi B a c l) :
    Calls Try.prog 70 #[.slice none 0 0, .func (.func 66) #[] #[.pointer (some ⟨B, 0, none⟩)]] w fun e w' => ∃ v, e = .returned v ∧ w'.ownsRow w.heap.size 36 2 v l.length (pcells l) ∧ Below w.heap.size w w' := by
  refine (callsIn_wide (n := 5)).1 ?_
  refine callsIn_of_wp_marks Try.func70 rfl trivial ?_ rfl
  simp only [Try.ntmps70, List.size_toArray, List.length_cons, List.length_nil, Nat.reduceAdd, Nat.reduceSub, Array.replicate_succ, Array.replicate_zero, List.push_toArray, List.append_toArray, List.nil_append, List.cons_append]
  obtain ⟨w0, hw0⟩ : ∃ w0 : World, w0 = w.alloc (.cells #[.slice none 0 0] 22) := ⟨_, rfl⟩
  have ha0 : w0.heap[w.heap.size]? = some (.cells #[.slice none 0 0] 22 (0, 0)) := by rw [hw0]; exact hp_alloc_new w _
  have hB0 : Below w.heap.size w w0 := by rw [hw0]; exact below_new1 w _
  have hsz0 : w0.heap.size = w.heap.size + 1 := by rw [hw0, size_new]
  have h0 : SrcP w0 hi B a c l := h.keep hB (fun j hj => hB0.block j (by omega))
  have HIT := Lib.hid (fun n hn => vals_it n hn hi B a c l w0 hB (by omega) hl h0)
  clear h h0
  gi_wp2
  rw [← hw0]
  clear hw0
  refine range_all rfl (by omega) (gf := 66) (lb := #[.pointer (some ⟨B, 0, none⟩)]) rfl trivial (enters_of Try.func66 (by kernel_rfl) rfl)
    (HIT.out 4 (by omega)) Between.trans (fun W l' o hl' => ?put1) (fun W o hW => Between.of_below (below_new1 W o) (by omega)) (fun _ _ _ _ _ _ _ _ _ h => h) (fun _ _ _ _ h => h) (Below.refl _ _) (fun _ => rfl)
    (fun pre W => Coll w0 w.heap.size 22 36 2 pre.length (pcells pre) W) (coll_own w0 w.heap.size 22 36 2 _ _) (coll_start ha0)
    (fun x A => { tmps := #[.slice none 0 0, .func (.func 66) #[] #[.pointer (some ⟨B, 0, none⟩)], .pointer (some ⟨w.heap.size, 0, none⟩), undef, .slice none 0 0, .pointer (some ⟨A, 0, none⟩), .func (.func 66) #[] #[.pointer (some ⟨B, 0, none⟩)], x.val, undef, undef, undef, undef, undef], defers := [] })
    (fun x => .cells #[.int .i64 x.node, .slice x.a x.vs.length x.c] 36) ?assign1 ?body1 ?done1
  case put1 =>
    have hg := grownBy_putObj' W l' o
    refine ⟨hg.size, fun j _ h3 => ?_⟩
    by_cases hj : j < W.heap.size
    · exact hg.block j hj (by simp; omega)
    · have e : (W.putObj l' o).heap.size = W.heap.size := by simp [World.putObj]
      rw [Array.getElem?_eq_none (by omega), Array.getElem?_eq_none (by omega)]
  case assign1 =>
    intro lb x W K hK
    simp only [Pt.val]
    gi_wp2
    simpa [Pt.val] using hK
  case body1 =>
    rintro lb pre x A W hA hbA ⟨a, c, hb, hr, hK⟩ hgood
    have hlt2 : pre.length < 64 := by have := hgood.length_le; rw [List.length_append] at this; simp at this; omega
    obtain ⟨q0, q1, q2⟩ := blk1 hb
    obtain ⟨p0, p1, pf0, pf1, pz⟩ := blk2 hbA
    obtain ⟨j0, hj, hy0, hy1, hy2⟩ := info_parts infoProm
    have hKs := hK.size
    have HB := Lib.hid hb
    have HR := Lib.hid hr
    have HK := Lib.hid hK
    clear hb hr hK hgood hbA
    gi_wp2_with (gi_at_builtin; refine wpListIn_append_own _ rfl _ _ 22 rfl w0.heap.size 36 j0 (.agg #[.int .i64 0, .slice none 0 0]) 2 32 Try.underlying22 hj hy0 hy1 hy2 rfl (by decide) _ _ _ rfl (HR.out.alloc _) ⟨W.heap.size, 0, none⟩ 1 1 x.cells rfl rfl (lie_adds (lie_new2' _ _ _ _)) (by simp [Pt.cells, Value.oneCell']) (by unfold maxLen; omega) (by omega) (by rw [size_new]; omega) ?_; intro v' W1 hown' hgrow _; obtain ⟨a5, c5, rfl, hW1, hke, hbt, hset, hco⟩ := coll_step (hi := hi) (by omega) HB.out HR.out HK.out hgrow hown' (by omega); obtain ⟨e0, e1, e2⟩ := blk1 hW1; have hsc := (blk1 hset).1; have HW1 := Lib.hid hset; have HKE := Lib.hid hke; have HBT := Lib.hid hbt; have HCO := Lib.hid hco; clear hown' hgrow hW1 hke hbt hset hco)
    exact ⟨HKE.out, HBT.out, by dsimp only; rw [List.length_append, pcells_snoc]; exact HCO.out⟩
  case done1 =>
    rintro D xs W hD rfl ⟨a1, c1, hg1, ho1, hk1⟩ hK1
    have hBW : Below w.heap.size w W := hB0.trans (hk1.below (Nat.le_of_lt (by omega)) (fun k hk => by omega))
    obtain ⟨q0, q1, q2⟩ := blk1 hg1
    gi_wp2
    refine ⟨by simp, .inl ⟨_, _, rfl, run_takeDeferred hK1, ?_⟩⟩
    obtain ⟨X, hX⟩ : ∃ X, X = W.putObj D (.deferred none) := ⟨_, rfl⟩
    have p3 := put_keeps hX
    have y0 := ownsRow_putObj ho1 (.deferred none) hK1 rfl
    rw [← hX] at y0 ⊢
    have hB3 : Below w.heap.size w X := hBW.grown p3.1 hBW.size (fun j hj => by simp at hj; omega)
    exact ⟨.slice a1 xs.length c1, by simp [results, Try.results70, go_sem, Result.andThen], _, rfl, own_mono y0 (by omega), hB3⟩

theorem values_ok (a : Option Addr) (n c : Nat) (w : World) : Calls Try.prog 55 #[.slice a n c] w fun e w' => e = .returned (.func (.func 66) #[] #[.pointer (some ⟨w.heap.size, 0, none⟩)]) ∧ w' = w.alloc (.cells #[.slice a n c] 22) := by
  go_enter Try.func55, Try.ntmps55
  go_wp2_with fail
  exact bodyPost_ret (v := .func (.func 66) #[] #[.pointer (some ⟨w.heap.size, 0, none⟩)]) (by simp [results, Try.results55, go_sem]) rfl ⟨rfl, rfl⟩

theorem collect_ok (B hi : Nat) (a : Option Addr) (c : Nat) (l : List Pt) (w : World) (hB : B < hi) (hhi : hi ≤ w.heap.size) (hl : l.length ≤ 5) (h : SrcP w hi B a c l) :
    Calls Try.prog 64 #[.func (.func 66) #[] #[.pointer (some ⟨B, 0, none⟩)]] w fun e w' => ∃ v, e = .returned v ∧ w'.ownsRow w.heap.size 36 2 v l.length (pcells l) ∧ Below w.heap.size w w' := by
  have HA := Lib.hid (append_ok B hi a c l w hB hhi hl h)
  clear h
  go_enter Try.func64, Try.ntmps64
  go_wp2_with fail
  refine HA.out.mono ?_; rintro e w1 ⟨v, rfl, ho, hb⟩
  have HO := Lib.hid ho
  have HB := Lib.hid hb
  clear ho hb
  go_wp2_with fail
  go_ret
  exact ⟨v, rfl, HO.out, HB.out⟩
end Go.Proofs.Ytodoncmielfbeaa.chv
