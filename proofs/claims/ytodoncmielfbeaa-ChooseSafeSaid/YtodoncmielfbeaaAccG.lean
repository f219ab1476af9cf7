/-
  slices.DeleteFunc at votes, for the closure of Prepare; Prepare.
-/
import Derived.Test.YtodoncmielfbeaaAccF
namespace Go.Proofs.Ytodoncmielfbeaa.accg
open Go.ChangeShapes Go.WideShapes Go.ChangeAt Go.RowKit
open Go.Proofs.Ytodoncmielfbeaa.kit Go.Proofs.Ytodoncmielfbeaa.mapkit Go.Proofs.Ytodoncmielfbeaa.byt Go.Proofs.Ytodoncmielfbeaa.own Go.Proofs.Ytodoncmielfbeaa.accd Go.Proofs.Ytodoncmielfbeaa.acca Go.Proofs.Ytodoncmielfbeaa.accb Go.Proofs.Ytodoncmielfbeaa.acck Go.Proofs.Ytodoncmielfbeaa.accc Go.Proofs.Ytodoncmielfbeaa.acce Go.Proofs.Ytodoncmielfbeaa.accf
set_option linter.unusedVariables false
set_option linter.unusedSimpArgs false
set_option maxHeartbeats 1000000
set_option maxRecDepth 100000

theorem hp_cells {b : Nat} {T : TypeId} {f : Nat × Nat} : ∀ (vs B A C : List Value) (w : World), w.heap[b]? = some (.cells (A ++ B ++ C).toArray T f) → B.length = vs.length → (w.setCells b A.length vs).heap[b]? = some (.cells (A ++ vs ++ C).toArray T f)
  | [], [], A, C, w, h, _ => h
  | v :: vs, x :: B, A, C, w, h, hl => by
    have h1 := hp_set h A.length v
    have e : (A ++ (x :: B) ++ C).toArray.setIfInBounds A.length v = ((A ++ [v]) ++ B ++ C).toArray := by simp
    rw [e] at h1
    have h2 := hp_cells vs B (A ++ [v]) C _ h1 (by simpa using hl)
    rw [List.length_append] at h2
    simpa [World.setCells] using h2
theorem keep_cells {a : World} {b : Nat} : ∀ (vs : List Value) (o : Nat) (w : World), Keep (fun k => k = b) a w → Keep (fun k => k = b) a (w.setCells b o vs)
  | [], o, w, h => h
  | v :: vs, o, w, h => by rw [World.setCells]; exact keep_cells vs _ _ (h.setCell (p := ⟨b, o, none⟩) (.inr rfl) v)
/-- The zeros that clear stores. -/
def zeros (m : Nat) : List Value := (Builtin.zeroCells (Value.agg #[.int .i64 0, .int .i64 0, .int .i64 0, .slice none 0 0]).cells m).toList
theorem zeros_len (m : Nat) : (zeros m).length = m * 4 ∧ ∀ u ∈ zeros m, u.oneCell' = true := by
  unfold zeros Builtin.zeroCells
  constructor
  · simp [Value.cells]
  · intro u hu
    simp only [Array.toList_map, List.mem_map] at hu
    obtain ⟨i, _, rfl⟩ := hu
    show (#[Value.int .i64 0, .int .i64 0, .int .i64 0, .slice none 0 0][i % 4]!).oneCell' = true
    have h4 : i % 4 < 4 := Nat.mod_lt _ (by omega)
    generalize i % 4 = q at h4
    match q, h4 with
    | 0, _ => rfl
    | 1, _ => rfl
    | 2, _ => rfl
    | 3, _ => rfl
theorem run_clear4 (w : World) (ty : TypeId) (b o m c : Nat) (hm : 0 < m) (hc : ∀ j, j < m * 4 → (w.cell? ⟨b, o + j, none⟩).isSome = true) (hf : ∀ j, j < m * 4 → w.frozen? ⟨b, o + j, none⟩ = false) :
    (Builtin.clear_ #[34] ty #[.slice (some ⟨b, o, none⟩) m c]).run Try.prog w = .ok (.tuple #[]) (w.setCells b o (zeros m)) := by
  obtain ⟨m, rfl⟩ : ∃ k, m = k + 1 := ⟨m - 1, by omega⟩
  obtain ⟨hl, h1⟩ := zeros_len (m + 1)
  have hst := run_storeCells_cells (P := Try.prog) b o (zeros (m + 1)) 0 w (by rw [hl]; simpa using hc) (by rw [hl]; simpa using hf) h1
  simp only [Nat.add_zero] at hst
  have hz : ∀ w : World, (zeroValue 45).run Try.prog w = .ok (.agg #[.int .i64 0, .int .i64 0, .int .i64 0, .slice none 0 0]) w := by intro w; go_simp
  unfold zeros at hst
  simp only [Value.cells] at hst
  simp [Builtin.clear_, run_underlying Try.underlying34, hz, Value.cells, hst, zeros]

def kept (xs : List Vt) (d : Int) : List Vt := xs.filter (fun v => decide (d ≤ v.s))
theorem kept_snoc (xs : List Vt) (x : Vt) (d : Int) : kept (xs ++ [x]) d = if d ≤ x.s then kept xs d ++ [x] else kept xs d := by
  unfold kept
  rw [List.filter_append]
  by_cases h : d ≤ x.s
  · rw [if_pos h]; simp [h]
  · rw [if_neg h]; simp [h]
/-- In the loop: what is kept so far, what lies between, what is to come. -/
structure Dl (w wr : World) (g : Nat) (xs : List Vt) (d : Int) (R : List Value) (j : Nat) : Prop where
  row : ∃ J, wr.heap[g]? = some (.cells (vcells (kept (xs.take j) d) ++ J ++ (vcells (xs.drop j) ++ R)).toArray 45 (0, 0)) ∧ (kept (xs.take j) d).length * 4 + J.length = j * 4 ∧ (kept (xs.take j) d).length < j
  keep : Keep (fun k => k = g) w wr
theorem Dl.cells {w wr : World} {g : Nat} {xs : List Vt} {d : Int} {R : List Value} {j : Nat} (h : Dl w wr g xs d R j) (hj : j < xs.length) :
    wr.cell? ⟨g, j * 4, none⟩ = some (.int .i64 xs[j].s) ∧ wr.cell? ⟨g, j * 4 + 1, none⟩ = some (.int .i64 xs[j].r) ∧ wr.cell? ⟨g, j * 4 + 2, none⟩ = some (.int .i64 xs[j].n) ∧ wr.cell? ⟨g, j * 4 + 3, none⟩ = some (.slice xs[j].a xs[j].l.length xs[j].c) := by
  obtain ⟨⟨J, hb, hl, _⟩, _⟩ := h
  have e : vcells (xs.drop j) = Vt.cells xs[j] ++ vcells (xs.drop (j + 1)) := by rw [List.drop_eq_getElem_cons hj]; rfl
  have hA : (vcells (kept (xs.take j) d) ++ J).length = j * 4 := by rw [List.length_append, vcells_len]; exact hl
  have hget : ∀ t, t < 4 → wr.cell? ⟨g, j * 4 + t, none⟩ = (Vt.cells xs[j])[t]? := by
    intro t ht
    rw [(kit.blk hb).1, List.getElem?_toArray, List.getElem?_append_right (by omega), hA, show j * 4 + t - j * 4 = t by omega, e, List.append_assoc, List.getElem?_append_left (by simp [Vt.cells]; omega)]
  exact ⟨hget 0 (by omega), hget 1 (by omega), hget 2 (by omega), hget 3 (by omega)⟩
theorem Dl.slots {w wr : World} {g : Nat} {xs : List Vt} {d : Int} {R : List Value} {j i : Nat} (h : Dl w wr g xs d R j) (hi : i = (kept (xs.take j) d).length) : ∀ t, t < 4 → ∃ y, wr.cell? ⟨g, i * 4 + t, none⟩ = some y := by
  subst hi
  obtain ⟨⟨J, hb, hl, hlt⟩, _⟩ := h
  intro t ht
  have hz : (kept (xs.take j) d).length * 4 + t < (vcells (kept (xs.take j) d) ++ J ++ (vcells (xs.drop j) ++ R)).length := by
    rw [List.length_append, List.length_append, vcells_len]; omega
  exact ⟨_, ((kit.blk hb).1 _).trans (by rw [List.getElem?_toArray]; exact List.getElem?_eq_getElem hz)⟩
theorem Dl.old {w wr w' : World} {g : Nat} {xs : List Vt} {d : Int} {R : List Value} {j : Nat} (h : Dl w wr g xs d R j) (hb : Below wr.heap.size wr w') : Dl w w' g xs d R j := by
  obtain ⟨⟨J, h1, h2, h3⟩, hk⟩ := h
  exact ⟨⟨J, hp_step h1 hb, h2, h3⟩, hk.trans (Keep.of_below hb)⟩
theorem Dl.pass {w wr : World} {g : Nat} {xs : List Vt} {d : Int} {R : List Value} {j : Nat} (h : Dl w wr g xs d R j) (hj : j < xs.length) (hd : xs[j].s < d) : Dl w wr g xs d R (j + 1) ∧ (kept (xs.take (j + 1)) d).length = (kept (xs.take j) d).length := by
  obtain ⟨⟨J, h1, h2, h3⟩, hk⟩ := h
  have e : vcells (xs.drop j) = Vt.cells xs[j] ++ vcells (xs.drop (j + 1)) := by rw [List.drop_eq_getElem_cons hj]; rfl
  have ek : kept (xs.take (j + 1)) d = kept (xs.take j) d := by rw [List.take_succ_eq_append_getElem hj, kept_snoc, if_neg (by omega)]
  refine ⟨⟨⟨J ++ Vt.cells xs[j], ?_, ?_, ?_⟩, hk⟩, by rw [ek]⟩
  · rw [h1, ek, e]
    simp only [List.append_assoc]
  · rw [ek, List.length_append]
    simp only [Vt.cells, List.length_cons, List.length_nil]
    omega
  · rw [ek]; omega
theorem Dl.move {w wr : World} {g : Nat} {xs : List Vt} {d : Int} {R : List Value} {j : Nat} (h : Dl w wr g xs d R j) (hj : j < xs.length) (hd : ¬ xs[j].s < d) :
    Dl w (wr.setCells g ((kept (xs.take j) d).length * 4) (Vt.cells xs[j])) g xs d R (j + 1) ∧ (kept (xs.take (j + 1)) d).length = (kept (xs.take j) d).length + 1 := by
  obtain ⟨⟨J, h1, h2, h3⟩, hk⟩ := h
  have e : vcells (xs.drop j) = Vt.cells xs[j] ++ vcells (xs.drop (j + 1)) := by rw [List.drop_eq_getElem_cons hj]; rfl
  have ek : kept (xs.take (j + 1)) d = kept (xs.take j) d ++ [xs[j]] := by rw [List.take_succ_eq_append_getElem hj, kept_snoc, if_pos (by omega)]
  have hJ : J = J.take 4 ++ J.drop 4 := (List.take_append_drop 4 J).symm
  have h1' : wr.heap[g]? = some (.cells (vcells (kept (xs.take j) d) ++ J.take 4 ++ (J.drop 4 ++ (vcells (xs.drop j) ++ R))).toArray 45 (0, 0)) := by
    rw [h1]
    congr 3
    conv => lhs; rw [hJ]
    simp only [List.append_assoc]
  have h4 := hp_cells (Vt.cells xs[j]) (J.take 4) _ _ _ h1' (by rw [List.length_take]; simp only [Vt.cells, List.length_cons, List.length_nil]; omega)
  rw [vcells_len] at h4
  refine ⟨⟨⟨J.drop 4 ++ Vt.cells xs[j], ?_, ?_, ?_⟩, keep_cells _ _ _ hk⟩, by rw [ek, List.length_append]; rfl⟩
  · rw [h4, ek, vcells_append, e]
    have e1 : vcells [xs[j]] = Vt.cells xs[j] := by simp [vcells]
    rw [e1]
    simp only [List.append_assoc]
  · rw [ek, List.length_append, List.length_append, List.length_drop]
    simp only [Vt.cells, List.length_cons, List.length_nil]
    omega
  · rw [ek, List.length_append]
    simp only [List.length_cons, List.length_nil]
    omega

theorem delf_any (w : World) (base cb : Nat) (d : Int) (a : Option Addr) (c : Nat) (xs : List Vt) (hlen : xs.length ≤ 16) (hr : w.ownsRow base 45 4 (.slice a xs.length c) xs.length (vcells xs)) (hcb : w.heap[cb]? = some (.cells #[.int .i64 d] 3 (0, 0))) :
    Calls Try.prog 50 #[.slice a xs.length c, .func (.func 51) #[] #[.pointer (some ⟨cb, 0, none⟩)]] w fun e w' => e = .returned (.slice a (kept xs d).length c) ∧ w'.ownsRow base 45 4 (.slice a (kept xs d).length c) (kept xs d).length (vcells (kept xs d)) ∧ Keep (fun k => a = some ⟨k, 0, none⟩) w w' := by
  have HI := Lib.hid (index_any w base cb d a c xs hlen hr hcb)
  cases hf : xs.findIdx? (fun v => decide (v.s < d)) with
  | none =>
    have hix : idx xs d = -1 := by rw [idx, hf]
    have hk : kept xs d = xs := by
      unfold kept
      rw [List.filter_eq_self]
      intro v hv
      have := (List.findIdx?_eq_none_iff.1 hf) v hv
      simp at this ⊢
      omega
    rw [hix] at HI
    rw [hk]
    have HR := Lib.hid hr
    clear hf hix hk hr hcb
    go_enter Try.func50, Try.ntmps50
    go_wp2_with fail
    refine HI.out.mono ?_; rintro e w1 ⟨rfl, hb1⟩
    have HB1 := Lib.hid hb1
    clear hb1 HI
    go_wp2_with fail
    go_ret
    exact ⟨rfl, own_below HR.out HB1.out, Keep.of_below HB1.out⟩
  | some i0 =>
    have hix : idx xs d = i0 := by rw [idx, hf]
    rw [hix] at HI
    obtain ⟨hi0, hd0, hno⟩ := List.findIdx?_eq_some_iff_getElem.1 hf
    obtain ⟨g, rfl⟩ := own_ptr hr (by omega)
    have hrow := hr
    rcases hr.2 with ⟨hz, _⟩ | ⟨g', c', cur, e', hg, hh, hc, hm, hsz, hcur⟩
    · simp at hz
    simp only [Value.slice.injEq, Option.some.injEq, Addr.mk.injEq, and_true, true_and] at e'
    obtain ⟨rfl, rfl⟩ := e'
    obtain ⟨R, hR⟩ : ∃ R, cur.toList = vcells xs ++ R := ⟨cur.toList.drop (xs.length * 4), by rw [← hcur, List.take_append_drop]⟩
    have hcurE : cur = (vcells xs ++ R).toArray := by rw [← hR]
    have hRl : (vcells xs ++ R).length = c * 4 := by rw [← hR]; simpa using hsz
    have htk : kept (xs.take i0) d = xs.take i0 := by
      unfold kept
      rw [List.filter_eq_self]
      intro v hv
      obtain ⟨t, ht, rfl⟩ := List.getElem_of_mem hv
      rw [List.getElem_take]
      have ht' : t < i0 := by rw [List.length_take] at ht; omega
      have := hno t ht'
      simp at this ⊢
      omega
    have hk0 : kept (xs.take (i0 + 1)) d = xs.take i0 := by
      rw [List.take_succ_eq_append_getElem hi0, kept_snoc, if_neg (by simp at hd0; omega), htk]
    have hl0 : (kept (xs.take (i0 + 1)) d).length = i0 := by rw [hk0, List.length_take, Nat.min_eq_left (by omega)]
    have hD : Dl w w g xs d R (i0 + 1) := by
      refine ⟨⟨Vt.cells xs[i0], ?_, ?_, by omega⟩, Keep.refl _ _⟩
      · rw [hh, hcurE, hk0]
        congr 3
        have e : xs = xs.take i0 ++ (xs[i0] :: xs.drop (i0 + 1)) := by rw [← List.drop_eq_getElem_cons hi0, List.take_append_drop]
        conv => lhs; rw [e]
        rw [vcells_append]
        have e2 : vcells (xs[i0] :: xs.drop (i0 + 1)) = Vt.cells xs[i0] ++ vcells (xs.drop (i0 + 1)) := rfl
        rw [e2]
        simp only [List.append_assoc]
      · rw [hl0]
        simp only [Vt.cells, List.length_cons, List.length_nil]
        omega
    have hm1 : ((i0 : Int) == -1) = false := by simp
    have hne : cb ≠ g := fun e => by rw [e, hh] at hcb; simp at hcb
    have hcbz := (kit.blk hcb).2.2
    have hgz := (kit.blk hh).2.2
    have HD := Lib.hid hD
    have HCB := Lib.hid hcb
    have HROW := Lib.hid hrow
    clear hf hix hr hcb hrow hh hcur hcurE hsz hR hd0 hno htk hk0 hD
    go_enter Try.func50, Try.ntmps50
    go_wp2_with fail
    refine HI.out.mono ?_; rintro e w1 ⟨rfl, hb1⟩
    have HD1 := Lib.hid (HD.out.old hb1)
    clear hb1 HI
    go_wp2_with fail
    go_loopw [5, 6] (fun i j wr => ∃ jj ii : Nat, jj ≤ xs.length ∧ j = .int .i64 jj ∧ i = .int .i64 ii ∧ ii = (kept (xs.take jj) d).length ∧ Hid (Dl w wr g xs d R jj)) (fun _ j _ => xs.length - (RowKit.intOf j).toNat)
    case atStart => exact ⟨i0 + 1, i0, by omega, by simp, rfl, hl0.symm, HD1⟩
    case round =>
      obtain ⟨j, i, hj, rfl, rfl, hi, hDl⟩ := hrel
      by_cases hlt : j < xs.length
      · obtain ⟨q0, q1, q2, q3⟩ := hDl.out.cells hlt
        have hij : i < j := by have := hDl.out.row; obtain ⟨J, _, _, h3⟩ := this; rw [hi]; exact h3
        have hcbr := hDl.out.keep.hp HCB.out (fun e => hne e)
        have HI := Lib.hid hi
        clear hi
        have hx16 : j ≤ 16 := by omega
        obtain ⟨x, hx⟩ : ∃ x, x = xs[j] := ⟨_, rfl⟩
        obtain ⟨wb, hwb⟩ : ∃ wb : World, wb = wr.alloc (.cells #[.int .i64 x.s, .int .i64 x.r, .int .i64 x.n, .slice x.a x.l.length x.c] 45) := ⟨_, rfl⟩
        have hbb : Below wr.heap.size wr wb := by rw [hwb]; exact below_new1 _ _
        have hbx : wb.heap[wr.heap.size]? = some (.cells #[.int .i64 x.s, .int .i64 x.r, .int .i64 x.n, .slice x.a x.l.length x.c] 45 (0, 0)) := by rw [hwb]; exact hp_alloc_new _ _
        obtain ⟨d0, -, dz⟩ := blk1 (hp_step hcbr hbb)
        have hcl := clos_any wb cb d x.s x.r x.n x.a x.l.length x.c d0 dz
        have HBB := Lib.hid hbb
        have HBX := Lib.hid hbx
        have HWB := Lib.hid hwb
        obtain ⟨b0, b1, b2, b3, bz⟩ := blk4 hbx
        rw [← hx] at q0 q1 q2 q3
        by_cases hd : x.s < d
        · rw [decide_eq_true hd] at hcl
          have HCL := Lib.hid hcl
          have HPS := Lib.hid (fun (w4 : World) (h : Dl w w4 g xs d R j) => h.pass hlt (by rw [← hx]; exact hd))
          clear hcl hcbr hwb hbb hbx hx hd d0
          go_wp2_with fail
          rw [← HWB.out]
          refine HCL.out.mono ?_; rintro e w4 ⟨rfl, hb4⟩
          have hD4 := hDl.out.old (below_step HBB.out hb4)
          have HP := Lib.hid (HPS.out w4 hD4)
          clear hb4 hD4 HCL HPS
          go_wp2_with fail
          go_roundw
          case rel => exact ⟨j + 1, i, by omega, by go_num, rfl, by rw [HP.out.2]; exact HI.out, HP.out.1⟩
          case measure => simp [RowKit.intOf]; omega
        · rw [decide_eq_false hd] at hcl
          have HCL := Lib.hid hcl
          have HPS := Lib.hid (fun (w4 : World) (h : Dl w w4 g xs d R j) => h.move hlt (by rw [← hx]; exact hd))
          rw [← hx] at HPS
          clear hcl hcbr hwb hbb hbx hx hd d0
          go_wp2_with fail
          rw [← HWB.out]
          refine HCL.out.mono ?_; rintro e w4 ⟨rfl, hb4⟩
          have hD4 := hDl.out.old (below_step HBB.out hb4)
          have HP := Lib.hid (HPS.out w4 hD4)
          rw [← HI.out] at HP
          obtain ⟨y0, z0⟩ := hD4.slots HI.out 0 (by omega)
          obtain ⟨y1, z1⟩ := hD4.slots HI.out 1 (by omega)
          obtain ⟨y2, z2⟩ := hD4.slots HI.out 2 (by omega)
          obtain ⟨y3, z3⟩ := hD4.slots HI.out 3 (by omega)
          rw [Nat.add_zero] at z0
          obtain ⟨J4, hJ4, _⟩ := hD4.row
          have f4 := (kit.blk hJ4).2.1
          have f0 := f4 (i * 4)
          have f1 := f4 (i * 4 + 1)
          have f2 := f4 (i * 4 + 2)
          have f3 := f4 (i * 4 + 3)
          obtain ⟨e0, e1, e2, e3, ez⟩ := blk4 (hp_step HBX.out hb4)
          have hi16 : i ≤ 16 := by omega
          clear hb4 hD4 HCL HPS hJ4 f4 b0 b1 b2 b3 bz q0 q1 q2 q3
          go_wp2_with fail
          go_roundw
          case rel => exact ⟨j + 1, i + 1, by omega, by go_num, by go_num, by rw [HP.out.2], HP.out.1⟩
          case measure => simp [RowKit.intOf]; omega
      · obtain rfl : j = xs.length := by omega
        obtain ⟨⟨J, hb, hl, hlt2⟩, hkp⟩ := hDl.out
        rw [List.take_length] at hb hl hi hlt2
        rw [List.drop_length] at hb
        have hb2 : wr.heap[g]? = some (.cells (vcells (kept xs d) ++ J ++ R).toArray 45 (0, 0)) := hb
        have hJl : J.length = (xs.length - i) * 4 := by omega
        obtain ⟨k1, k2, k3⟩ := kit.blk hb2
        have hal : (vcells (kept xs d) ++ J ++ R).length = c * 4 := by
          rw [List.length_append] at hRl ⊢
          rw [List.length_append]
          have := vcells_len xs
          have := vcells_len (kept xs d)
          omega
        have hcl : ∀ ty c', (Builtin.clear_ #[34] ty #[.slice (some ⟨g, i * 4, none⟩) (xs.length - i) c']).run Try.prog wr = .ok (.tuple #[]) (wr.setCells g (i * 4) (zeros (xs.length - i))) := by
          intro ty c'
          refine run_clear4 wr ty g (i * 4) (xs.length - i) c' (by omega) (fun t ht => ?_) (fun t ht => ?_)
          · rw [k1, List.getElem?_toArray, List.getElem?_eq_getElem (by omega)]
            rfl
          · exact k2 _
        have hz := hp_cells (zeros (xs.length - i)) J (vcells (kept xs d)) R wr hb2 (by rw [hJl, (zeros_len _).1])
        rw [vcells_len, ← hi] at hz
        have hfin : (wr.setCells g (i * 4) (zeros (xs.length - i))).ownsRow base 45 4 (.slice (some ⟨g, 0, none⟩) i c) i (vcells (kept xs d)) := by
          refine ⟨by rw [vcells_len, hi], .inr ⟨g, c, _, rfl, hg, hz, by omega, hm, ?_, ?_⟩⟩
          · simp only [List.size_toArray, List.length_append] at hal ⊢
            rw [(zeros_len _).1]
            omega
          · rw [List.append_assoc]
            exact List.take_left' (by rw [vcells_len, hi])
        have hkf := keep_cells (zeros (xs.length - i)) (i * 4) wr hkp
        have HFIN := Lib.hid hfin
        have HKF := Lib.hid (show Keep (fun k => (some ⟨g, 0, none⟩ : Option Addr) = some ⟨k, 0, none⟩) w (wr.setCells g (i * 4) (zeros (xs.length - i))) from ⟨hkf.os, hkf.tape, hkf.output, hkf.size, fun k hk hn => hkf.block k hk (fun e => hn (by rw [e]))⟩)
        have hp1 : ¬ c = i := by omega
        have hp2 : i ≤ c := by omega
        have hp3 : i ≤ xs.length := by omega
        have hp4 : xs.length ≤ c := hc
        have HI := Lib.hid hi
        clear hb hl hb2 hJl k1 k2 k3 hal hz hfin hkf hkp hi hDl
        go_wp2_with fail
        go_ret
        rw [← HI.out]
        exact ⟨rfl, HFIN.out, HKF.out⟩
end Go.Proofs.Ytodoncmielfbeaa.accg
