/-
  The document's greatest and For.
-/
import Derived.Test.YtodoncmielfbeaaChE
import Derived.Test.YtodoncmielfbeaaKit2
namespace Go.Proofs.Ytodoncmielfbeaa.chf
open Go.ChangeShapes Go.WideShapes Go.ChangeAt Go.RowKit
open Go.Proofs.Ytodoncmielfbeaa.kit Go.Proofs.Ytodoncmielfbeaa.mapkit Go.Proofs.Ytodoncmielfbeaa.byt Go.Proofs.Ytodoncmielfbeaa.own Go.Proofs.Ytodoncmielfbeaa.accd Go.Proofs.Ytodoncmielfbeaa.chd Go.Proofs.Ytodoncmielfbeaa.chb Go.Proofs.Ytodoncmielfbeaa.chr Go.Proofs.Ytodoncmielfbeaa.che Go.Proofs.Ytodoncmielfbeaa.chq
set_option linter.unusedVariables false
set_option linter.unusedSimpArgs false
set_option maxHeartbeats 1000000
set_option maxRecDepth 100000

theorem greatest_ok (w : World) (a : Option Addr) (c : Nat) (l : List Pt) (h : RowP w a l) :
    Calls Try.prog 33 #[.slice a l.length c] w fun e w' => e = .returned (.int .i64 (topL 0 (l.map pv))) ∧ w = w' := by
  have hll := h.len
  have HC := Lib.hid h.cells
  have HGP := Lib.hid h.good
  clear h
  go_enter Try.func33, Try.ntmps33
  go_wp2_with fail
  go_loop [3, 4] (fun t i => ∃ k : Nat, k ≤ l.length ∧ i = .int .i64 k ∧ t = .int .i64 (topL 0 ((l.take k).map pv))) (fun _ i => l.length - (intOf i).toNat)
  case atStart => exact ⟨0, Nat.zero_le _, rfl, rfl⟩
  case round =>
    obtain ⟨k, hk, rfl, rfl⟩ := hrel
    by_cases hlt : k < l.length
    · obtain ⟨g, off, rfl, hgz, -, x1⟩ := HC.out k hlt
      have hgp := HGP.out _ (List.getElem_mem hlt)
      have hsn := pv_take l k hlt
      obtain ⟨p, hp⟩ : ∃ p, p = l[k] := ⟨_, rfl⟩
      rw [← hp] at x1 hgp hsn
      obtain ⟨pn, pvs, pa, pc⟩ := p
      dsimp only at x1
      have hto : topL 0 ((l.take (k + 1)).map pv) = topV (topL 0 ((l.take k).map pv)) (pvs.map vv) := by rw [hsn, topL_snoc]; rfl
      have HTO := Lib.hid hto
      have hpl : pvs.length ≤ 2932031007402 := hgp.row.len
      have HR := Lib.hid hgp.row
      obtain ⟨t0, ht0⟩ : ∃ t0, t0 = topL 0 ((l.take k).map pv) := ⟨_, rfl⟩
      rw [← ht0] at HTO ⊢
      clear hsn hp hto hgp ht0
      go_wp2_with fail
      go_loop [3, 5] (fun t j => ∃ m : Nat, m ≤ pvs.length ∧ j = .int .i64 m ∧ t = .int .i64 (topV t0 ((pvs.take m).map vv))) (fun _ j => pvs.length - (intOf j).toNat)
      case atStart => exact ⟨0, Nat.zero_le _, rfl, rfl⟩
      case round =>
        obtain ⟨m, hm, rfl, rfl⟩ := hrel
        by_cases hmt : m < pvs.length
        · obtain ⟨g2, off2, rfl, hgz2, v0, -, -, -⟩ := HR.out.cells m hmt
          have hvs := vv_take pvs m hmt
          obtain ⟨v, hv⟩ : ∃ v, v = pvs[m] := ⟨_, rfl⟩
          rw [← hv] at v0 hvs
          have HTV : Hid (topV t0 ((pvs.take (m + 1)).map vv) = if topV t0 ((pvs.take m).map vv) < v.s then v.s else topV t0 ((pvs.take m).map vv)) := by
            simp only [Hid]; rw [hvs, topV_snoc]; rfl
          obtain ⟨t1, ht1⟩ : ∃ t1, t1 = topV t0 ((pvs.take m).map vv) := ⟨_, rfl⟩
          rw [← ht1] at HTV ⊢
          clear hvs hv ht1
          by_cases hlt2 : t1 < v.s
          · rw [if_pos hlt2] at HTV
            go_wp2_with fail
            go_round
            case rel => exact ⟨m + 1, by omega, by go_num, by rw [HTV.out]⟩
            case measure => simp [intOf]; omega
          · rw [if_neg hlt2] at HTV
            go_wp2_with fail
            go_round
            case rel => exact ⟨m + 1, by omega, by go_num, by rw [HTV.out]⟩
            case measure => simp [intOf]; omega
        · obtain rfl : m = pvs.length := by omega
          have HT2 : Hid (topV t0 ((pvs.take pvs.length).map vv) = topL 0 ((l.take (k + 1)).map pv)) := by simp only [Hid]; rw [List.take_length, HTO.out]
          go_wp2_with fail
          go_round
          case rel => exact ⟨k + 1, by omega, by go_num, by rw [HT2.out]⟩
          case measure => simp [intOf]; omega
    · obtain rfl : k = l.length := by omega
      go_wp2_with fail
      go_ret
      exact ⟨rfl, rfl⟩

/-- The document's list as far as it is made. -/
def inP (n : Int) (slot : Int) (p : Pt) (k : Nat) : List Ct := if p.node = n then ((p.vs.take k).filter (fun v => decide (v.s = slot))).map (fun v => (p.node, v)) else []
def inL (n : Int) (slot : Int) (l : List Pt) (i : Nat) : List Ct := (l.take i).flatMap (fun p => inP n slot p p.vs.length)
def inN (slot : Int) (l : List Pt) (n : Nat) : List Ct := (List.range n).flatMap (fun m : Nat => inL ((m : Int) + 1) slot l l.length)
theorem inP_full (n slot : Int) (p : Pt) : inP n slot p p.vs.length = if p.node = n then atT slot p else [] := by
  unfold inP atT; rw [List.take_length]
theorem inL_snoc (n slot : Int) (l : List Pt) (i : Nat) (hi : i < l.length) : inL n slot l (i + 1) = inL n slot l i ++ inP n slot l[i] l[i].vs.length := by
  unfold inL; rw [List.take_succ_eq_append_getElem hi, List.flatMap_append]; simp
theorem inN_snoc (slot : Int) (l : List Pt) (n : Nat) : inN slot l (n + 1) = inN slot l n ++ inL ((n : Int) + 1) slot l l.length := by
  unfold inN; rw [List.range_succ, List.flatMap_append]; simp
theorem inP_skip {n slot : Int} {p : Pt} {k : Nat} (hk : k < p.vs.length) (h : ¬ p.vs[k].s = slot) : inP n slot p (k + 1) = inP n slot p k := by
  unfold inP
  rw [List.take_succ_eq_append_getElem hk, List.filter_append]
  simp [h]
theorem inP_put {n slot : Int} {p : Pt} {k : Nat} (hk : k < p.vs.length) (hn : p.node = n) (h : p.vs[k].s = slot) : inP n slot p (k + 1) = inP n slot p k ++ [(n, p.vs[k])] := by
  unfold inP
  rw [List.take_succ_eq_append_getElem hk, List.filter_append]
  simp [h, hn]
theorem inP_none {n slot : Int} {p : Pt} (k : Nat) (hn : ¬ p.node = n) : inP n slot p k = [] := by simp [inP, hn]
theorem inP_len (n slot : Int) (p : Pt) (k : Nat) : (inP n slot p k).length ≤ k := by
  unfold inP
  split
  · rw [List.length_map]
    have h1 := List.length_filter_le (fun v : Vt => decide (v.s = slot)) (p.vs.take k)
    rw [List.length_take] at h1
    omega
  · simp
theorem flat_filter (n slot : Int) (l : List Pt) : l.flatMap (fun p => inP n slot p p.vs.length) = (l.filter (fun p => decide (p.node = n))).flatMap (atT slot) := by
  induction l with
  | nil => rfl
  | cons p l ih =>
    rw [List.flatMap_cons, ih, inP_full, List.filter_cons]
    by_cases h : p.node = n
    · simp [h]
    · simp [h]
theorem map_flat {α β γ : Type} (f : α → List β) (g : β → γ) (l : List α) : (l.flatMap f).map g = l.flatMap (fun x => (f x).map g) := by
  induction l with
  | nil => rfl
  | cons x l ih => rw [List.flatMap_cons, List.map_append, ih, List.flatMap_cons]
theorem flat_map {α β γ : Type} (f : α → β) (g : β → List γ) (l : List α) : (l.map f).flatMap g = l.flatMap (fun x => g (f x)) := by
  induction l with
  | nil => rfl
  | cons x l ih => rw [List.map_cons, List.flatMap_cons, ih, List.flatMap_cons]
theorem inL_data (n slot : Int) (l : List Pt) : (inL n slot l l.length).map cvv = ((l.map pv).filter (fun p => decide (p.node = n))).flatMap (chp.at_ slot) := by
  unfold inL
  rw [List.take_length, flat_filter, map_flat, List.filter_map, flat_map]
  have e : ((fun p : chp.Pr => decide (p.node = n)) ∘ pv) = (fun p : Pt => decide (p.node = n)) := rfl
  rw [e]
  exact chp.fm_congr (fun p _ => at_pv slot p)
theorem inN_data (slot : Int) (l : List Pt) : (inN slot l 5).map cvv = chp.forS (l.map pv) slot := by
  unfold inN chp.forS
  rw [map_flat, show List.range 5 = [0, 1, 2, 3, 4] from rfl]
  simp only [List.flatMap_cons, List.flatMap_nil, inL_data]
  rfl
theorem inL_mem {n slot : Int} {l : List Pt} {i : Nat} {x : Ct} (h : x ∈ inL n slot l i) : ∃ p ∈ l, x.2 ∈ p.vs := by
  obtain ⟨p, hp, hx⟩ := List.mem_flatMap.1 h
  refine ⟨p, List.mem_of_mem_take hp, ?_⟩
  unfold inP at hx
  split at hx
  · obtain ⟨v, hv, rfl⟩ := List.mem_map.1 hx
    exact List.mem_of_mem_take (List.mem_filter.1 hv).1
  · simp at hx
theorem inN_mem {slot : Int} {l : List Pt} {n : Nat} {x : Ct} (h : x ∈ inN slot l n) : ∃ p ∈ l, x.2 ∈ p.vs := by
  obtain ⟨m, hm, hx⟩ := List.mem_flatMap.1 h
  exact inL_mem hx
theorem inL_len {n slot : Int} {l : List Pt} {i : Nat} (h16 : ∀ p ∈ l, p.vs.length ≤ 16) : (inL n slot l i).length ≤ 16 * i := by
  induction i with
  | zero => simp [inL]
  | succ i ih =>
    by_cases hi : i < l.length
    · rw [inL_snoc n slot l i hi, List.length_append]
      have h1 := inP_len n slot l[i] l[i].vs.length
      have h2 := h16 _ (List.getElem_mem hi)
      omega
    · have e : inL n slot l (i + 1) = inL n slot l i := by unfold inL; rw [List.take_of_length_le (by omega), List.take_of_length_le (by omega)]
      rw [e]; omega
theorem inN_len {slot : Int} {l : List Pt} {n : Nat} (h5 : l.length ≤ 5) (h16 : ∀ p ∈ l, p.vs.length ≤ 16) : (inN slot l n).length ≤ 80 * n := by
  induction n with
  | zero => simp [inN]
  | succ n ih =>
    rw [inN_snoc, List.length_append]
    have := inL_len (n := (n : Int) + 1) (slot := slot) (l := l) (i := l.length) h16
    omega
theorem infoCast : (Try.prog.info? 47).map (fun i => (i.zero, i.size, i.bytes)) = some (some (.agg #[.int .i64 0, .int .i64 0, .int .i64 0, .int .i64 0, .slice none 0 0]), 5, 56) := by kernel_rfl
theorem lie_new5 (w : World) (T : TypeId) (x y z u t : Value) : Lie (w.alloc (.cells #[x, y, z, u, t] T)) (some ⟨w.heap.size, 0, none⟩) [x, y, z, u, t] := by
  refine .inr ⟨_, 0, rfl, by rw [size_new]; omega, fun i hi => ?_⟩
  have hb := (kit.blk (hp_alloc_new w (.cells #[x, y, z, u, t] T))).1
  rw [Nat.zero_add, hb]
  match i, hi with
  | 0, _ => rfl
  | 1, _ => rfl
  | 2, _ => rfl
  | 3, _ => rfl
  | 4, _ => rfl
/-- The list in the making. -/
def CollK (w wr : World) (T : TypeId) (o : Value) (cs : List Ct) : Prop := (∃ a c, o = .slice a cs.length c ∧ wr.ownsRow w.heap.size T 5 (.slice a cs.length c) cs.length (cs.flatMap ccells)) ∧ Below w.heap.size w wr
theorem CollK.step {w wr w' : World} {T : TypeId} {a : Option Addr} {c : Nat} {cs : List Ct} {ob : Obj} {v' : Value} {x : Ct} (hB : Below w.heap.size w wr) (hr : wr.ownsRow w.heap.size T 5 (.slice a cs.length c) cs.length (cs.flatMap ccells))
    (hg : (wr.alloc ob).grownBy w' (Value.slice a cs.length c).ownBlock) (hown : w'.ownsRow w.heap.size T 5 v' (cs.length + 1) (cs.flatMap ccells ++ ccells x)) : CollK w w' T v' (cs ++ [x]) := by
  obtain ⟨a', c', rfl⟩ := own_shape hown
  refine ⟨⟨a', c', by simp, ?_⟩, (below_step hB (below_new1 wr ob)).grown hg (by rw [size_new]; have := hB.size; omega) (fun j hj => (hr.lt j hj).1)⟩
  simpa using hown

theorem for_ok (w : World) (slot : Int) (a : Option Addr) (c : Nat) (l : List Pt) (h : RowP w a l) (h5 : l.length ≤ 5) (h16 : ∀ p ∈ l, p.vs.length ≤ 16) :
    Calls Try.prog 17 #[.slice a l.length c, .int .i64 slot] w fun e w' => ∃ (a' : Option Addr) (c' : Nat) (cs : List Ct), e = .returned (.slice a' cs.length c') ∧ RowK w' w.heap.size 47 a' c' cs ∧ cs.map cvv = chp.forS (l.map pv) slot ∧ cs.length ≤ 400 ∧ (∀ x ∈ cs, ∃ p ∈ l, x.2 ∈ p.vs) ∧ Below w.heap.size w w' := by
  obtain ⟨j0, hj, hy0, hy1, hy2⟩ := info_parts infoCast
  have HH := Lib.hid (fun (wr : World) (hb : Below w.heap.size w wr) => h.below hb)
  have H16 := Lib.hid h16
  clear h h16
  go_enter Try.func17, Try.ntmps17
  go_wp2_with fail
  go_loopw [5, 6] (fun o nd wr => ∃ n : Nat, n ≤ 5 ∧ nd = .int .i64 ((n : Int) + 1) ∧ Hid (CollK w wr 47 o (inN slot l n))) (fun _ nd _ => 6 - (intOf nd).toNat)
  case atStart => exact ⟨0, by omega, rfl, ⟨none, 0, rfl, World.ownsRow_nil _ _ _ _⟩, Below.refl _ _⟩
  case round =>
    obtain ⟨n, hn, rfl, HC⟩ := hrel
    by_cases hlt : n < 5
    · have hN : (n : Int) + 1 ≤ 5 := by omega
      have hN2 : decide ((n : Int) + 1 ≤ 5) = true := decide_eq_true hN
      have HSN := Lib.hid (inN_snoc slot l n)
      have hnl := inN_len (slot := slot) (n := n) h5 H16.out
      go_wp2_with fail
      go_loopw [5, 7] (fun o i wr => ∃ k : Nat, k ≤ l.length ∧ i = .int .i64 k ∧ Hid (CollK w wr 47 o (inN slot l n ++ inL ((n : Int) + 1) slot l k))) (fun _ i _ => l.length - (intOf i).toNat)
      case atStart => exact ⟨0, by omega, rfl, by simpa [inL] using HC⟩
      case round =>
        obtain ⟨wo, rfl⟩ : ∃ wo : World, wo = wr := ⟨_, rfl⟩
        obtain ⟨k, hk, rfl, HC2⟩ := hrel
        by_cases hkt : k < l.length
        · have hgp := fun (wx : World) (hb : Below w.heap.size w wx) => (HH.out wx hb).good _ (List.getElem_mem hkt)
          have HX := Lib.hid (fun (wx : World) (hb : Below w.heap.size w wx) => (HH.out wx hb).cells k hkt)
          have hls := inL_snoc ((n : Int) + 1) slot l k hkt
          have hkl := inL_len (n := (n : Int) + 1) (slot := slot) (l := l) (i := k) H16.out
          have hp16 := H16.out _ (List.getElem_mem hkt)
          obtain ⟨p, hp⟩ : ∃ p, p = l[k] := ⟨_, rfl⟩
          rw [← hp] at HX hgp hls hp16
          have HLS := Lib.hid hls
          have HGP := Lib.hid hgp
          obtain ⟨b0, hb0⟩ : ∃ b0, b0 = inN slot l n ++ inL ((n : Int) + 1) slot l k := ⟨_, rfl⟩
          have hb0l : b0.length ≤ 480 := by rw [hb0, List.length_append]; omega
          have HB0 := Lib.hid hb0
          clear hls hgp hp
          go_wp2_with fail
          go_loopw [5, 8] (fun o j wr => ∃ m : Nat, m ≤ p.vs.length ∧ j = .int .i64 m ∧ Hid (CollK w wr 47 o (b0 ++ inP ((n : Int) + 1) slot p m))) (fun _ j _ => p.vs.length - (intOf j).toNat)
          case atStart => exact ⟨0, by omega, rfl, by rw [HB0.out]; simpa [inP] using HC2⟩
          case round =>
            obtain ⟨wi, rfl⟩ : ∃ wi : World, wi = wr := ⟨_, rfl⟩
            obtain ⟨m, hm, rfl, HC3⟩ := hrel
            obtain ⟨⟨a3, c3, rfl, hr3⟩, hB3⟩ := HC3.out
            obtain ⟨g, off, rfl, hgz, x0, x1⟩ := HX.out wi hB3
            have HR3 := Lib.hid hr3
            have HB3 := Lib.hid hB3
            clear hr3 hB3 HC3
            by_cases hnn : p.node = (n : Int) + 1
            · by_cases hmt : m < p.vs.length
              · have t1 : (p.node == (n : Int) + 1) = true := by simpa using hnn
                have hgw := HGP.out wi HB3.out
                obtain ⟨g2, off2, e2, hgz2, v0, v1, v2, v3⟩ := hgw.row.cells m hmt
                rw [e2] at x1
                have hpn : p.vs.length ≤ 9223372036854775807 := by omega
                have hil := inP_len ((n : Int) + 1) slot p m
                by_cases hs : p.vs[m].s = slot
                · have hput := inP_put (n := (n : Int) + 1) (slot := slot) hmt hnn hs
                  obtain ⟨v, hv⟩ : ∃ v, v = p.vs[m] := ⟨_, rfl⟩
                  rw [← hv] at v0 v1 v2 v3 hput hs
                  have t2 : (v.s == slot) = true := by simpa using hs
                  have HPUT := Lib.hid hput
                  have hll : (b0 ++ inP ((n : Int) + 1) slot p m).length ≤ 496 := by rw [List.length_append]; omega
                  obtain ⟨b1, hb1⟩ : ∃ b1, b1 = b0 ++ inP ((n : Int) + 1) slot p m := ⟨_, rfl⟩
                  rw [← hb1] at HR3 hll ⊢
                  have HB1 := Lib.hid hb1
                  have hsz := HB3.out.size
                  clear hput hv hb1 hgw hs
                  go_wp2_with (at_builtin; refine wpl_append rfl (.tmp 49) (.tmp 60) 40 rfl w.heap.size 47 j0 _ 5 56 Try.underlying40 hj hy0 hy1 hy2 rfl (by decide) _ b1.length (b1.flatMap ccells) rfl (HR3.out.alloc _) (some ⟨wi.heap.size, 0, none⟩) 1 1 (ccells ((n : Int) + 1, v)) rfl (by simp) rfl (lie_new5 _ _ _ _ _ _ _) (by simp [ccells, Value.oneCell']) (by unfold maxLen; omega) (by omega) (by rw [size_new]; omega) ?_; intro v8 w8 hown hgr; have HC8 := Lib.hid (CollK.step (x := ((n : Int) + 1, v)) HB3.out HR3.out hgr hown); clear hown hgr)
                  have HC9 : Hid (CollK w w8 47 v8 (b0 ++ inP ((n : Int) + 1) slot p (m + 1))) := by
                    simp only [Hid]
                    rw [HPUT.out, ← List.append_assoc, ← HB1.out]
                    exact HC8.out
                  go_wp2_with fail
                  go_roundw
                  case rel => exact ⟨m + 1, by omega, by go_num, HC9⟩
                  case measure => simp [intOf]; omega
                · have hskip := inP_skip (n := (n : Int) + 1) (slot := slot) hmt hs
                  obtain ⟨v, hv⟩ : ∃ v, v = p.vs[m] := ⟨_, rfl⟩
                  rw [← hv] at v0 v1 v2 v3 hs
                  have t2 : (v.s == slot) = false := by simpa using hs
                  have HC9 : Hid (CollK w wi 47 (.slice a3 (b0 ++ inP ((n : Int) + 1) slot p m).length c3) (b0 ++ inP ((n : Int) + 1) slot p (m + 1))) := by
                    simp only [Hid]
                    rw [hskip]
                    exact ⟨⟨a3, c3, rfl, HR3.out⟩, HB3.out⟩
                  clear hskip hv hgw hs
                  go_wp2_with fail
                  go_roundw
                  case rel => exact ⟨m + 1, by omega, by go_num, HC9⟩
                  case measure => simp [intOf]; omega
              · obtain rfl : m = p.vs.length := by omega
                have HC4 : Hid (CollK w wi 47 (.slice a3 (b0 ++ inP ((n : Int) + 1) slot p p.vs.length).length c3) (inN slot l n ++ inL ((n : Int) + 1) slot l (k + 1))) := by
                  simp only [Hid]
                  rw [HLS.out, ← List.append_assoc, ← HB0.out]
                  exact ⟨⟨a3, c3, rfl, HR3.out⟩, HB3.out⟩
                have t1 : (p.node == (n : Int) + 1) = true := by simpa using hnn
                go_wp2_with fail
                go_roundw
                case rel => exact ⟨k + 1, by omega, by go_num, HC4⟩
                case measure => simp [intOf]; omega
            · have t1 : (p.node == (n : Int) + 1) = false := by simpa using hnn
              have HC4 : Hid (CollK w wi 47 (.slice a3 (b0 ++ inP ((n : Int) + 1) slot p m).length c3) (inN slot l n ++ inL ((n : Int) + 1) slot l (k + 1))) := by
                simp only [Hid]
                rw [HLS.out, ← List.append_assoc, ← HB0.out, inP_none m hnn, inP_none p.vs.length hnn]
                have := HR3.out
                rw [inP_none m hnn] at this
                exact ⟨⟨a3, c3, rfl, this⟩, HB3.out⟩
              go_wp2_with fail
              go_roundw
              case rel => exact ⟨k + 1, by omega, by go_num, HC4⟩
              case measure => simp [intOf]; omega
        · obtain rfl : k = l.length := by omega
          rw [← HSN.out] at HC2
          go_wp2_with fail
          go_roundw
          case rel => exact ⟨n + 1, by omega, by go_num, HC2⟩
          case measure => simp [intOf]; omega
    · obtain rfl : n = 5 := by omega
      obtain ⟨⟨a', c', rfl, hr⟩, hB⟩ := HC.out
      have HR : Hid (RowK wr w.heap.size 47 a' c' (inN slot l 5)) := ⟨hr, fun x hx => by
        obtain ⟨p, hp, hv⟩ := inN_mem hx
        exact ((HH.out wr hB).good p hp).row.good _ hv⟩
      have HB := Lib.hid hB
      have HL := Lib.hid (inN_len (slot := slot) (n := 5) h5 H16.out)
      clear hr hB HC
      go_wp2_with fail
      go_ret
      exact ⟨a', c', _, rfl, HR.out, inN_data slot l, HL.out, fun x hx => inN_mem hx, HB.out⟩
end Go.Proofs.Ytodoncmielfbeaa.chf
