/-
  choose.Chosen.
-/
import Derived.Test.YtodoncmielfbeaaChOp
import Derived.Test.YtodoncmielfbeaaEqual
namespace Go.Proofs.Ytodoncmielfbeaa.chch
open Go.ChangeShapes Go.WideShapes Go.ChangeAt Go.RowKit Go.Maps Go.Sort Go.Shelf
open Go.ChangeMaps Go.MapKept
open Go.Proofs.Ytodoncmielfbeaa.kit Go.Proofs.Ytodoncmielfbeaa.mapkit Go.Proofs.Ytodoncmielfbeaa.byt Go.Proofs.Ytodoncmielfbeaa.own Go.Proofs.Ytodoncmielfbeaa.accd Go.Proofs.Ytodoncmielfbeaa.chd Go.Proofs.Ytodoncmielfbeaa.chb Go.Proofs.Ytodoncmielfbeaa.chr Go.Proofs.Ytodoncmielfbeaa.che Go.Proofs.Ytodoncmielfbeaa.chf Go.Proofs.Ytodoncmielfbeaa.chq Go.Proofs.Ytodoncmielfbeaa.cho Go.Proofs.Ytodoncmielfbeaa.chc Go.Proofs.Ytodoncmielfbeaa.chk Go.Proofs.Ytodoncmielfbeaa.chbe Go.Proofs.Ytodoncmielfbeaa.chop
set_option linter.unusedVariables false
set_option linter.unusedSimpArgs false
set_option maxHeartbeats 2000000
set_option maxRecDepth 100000

theorem sortsA (m : Nat) : AnyZI.SortsIn Try.prog chsh.sortedC_ren Fence.wide m :=
  ⟨fun blk off cap ss W hH hblk hsz => callsIn_wide.2 (AnyM.slices_Sort_int chsh.sortC blk off cap ss W hH hblk hsz),
   fun p cap W => callsIn_wide.2 (AnyM.slices_Sort_int_none chsh.sortC p cap W)⟩
theorem keysC (mb : Option Nat) (w : World) : Calls Try.prog 36 #[.map mb] w fun e w' => e = .returned (.func (.func 59) #[] #[.pointer (some ⟨w.heap.size, 0, none⟩)]) ∧ w' = w.alloc (.cells #[.map mb] 75) :=
  callsIn_wide.1 (AnyZI.keys_in chsh.keysC Fence.wide 5 trivial rfl mb w)
/-- A list of ints, each just if the map has it, none twice. -/
def KeysOf (f : Lit → Option Value) (ss : List Int) : Prop := ss.Nodup ∧ ∀ x, x ∈ ss ↔ (f (.int .i64 x)).isSome = true
theorem keysOf_int {w : World} {b cnt : Nat} {f : Lit → Option Value} {D : DataW Value} (ho : w.ownsMap Try.prog 3 raw b cnt D) (hs : Says D f) : (intKeys D).Nodup ∧ ∀ x, x ∈ intKeys D ↔ (f (.int .i64 x)).isSome = true := by
  obtain ⟨es, rfl, hpw, _⟩ := ho.entries (int_keyed Try.underlying3)
  obtain ⟨es', hD', hko⟩ := ho.keysOf
  obtain rfl : es = es' := by simpa using hD'
  have hk : ∀ p ∈ es, ∃ x, p.1 = .int .i64 x := fun p hp => by
    obtain ⟨v, hv⟩ := hko p hp
    obtain ⟨x, _, hx, _⟩ := Maps.keyOf_i64 Try.underlying3 hv
    exact ⟨x, hx⟩
  refine ⟨?_, fun x => ?_⟩
  · show (es.map fun p => Go.intOf p.1).Nodup
    refine List.pairwise_map.2 (hpw.imp_of_mem fun {p q} hp' hq' hne e => hne ?_)
    obtain ⟨a, ha⟩ := hk p hp'
    obtain ⟨b, hb⟩ := hk q hq'
    rw [ha, hb] at e ⊢
    exact congrArg _ e
  · rw [← hs.has, has_eq, List.any_eq_true]
    show x ∈ es.map (fun p => Go.intOf p.1) ↔ _
    rw [List.mem_map]
    constructor
    · rintro ⟨p, hp', rfl⟩
      obtain ⟨a, ha⟩ := hk p hp'
      exact ⟨p, hp', by rw [ha]; simp [Lit.sameKey, Go.intOf]⟩
    · rintro ⟨p, hp', hs⟩
      obtain ⟨a, ha⟩ := hk p hp'
      rw [ha] at hs
      exact ⟨p, hp', by rw [ha]; simpa [Lit.sameKey, Go.intOf] using hs⟩
theorem KeysOf.perm {f : Lit → Option Value} {ss ts : List Int} (h : KeysOf f ss) (hp : ts.Perm ss) : KeysOf f ts := ⟨(hp.nodup_iff).2 h.1, fun x => (hp.mem_iff).trans (h.2 x)⟩

theorem sortedC (w : World) (B b cnt : Nat) (f : Lit → Option Value) (h : MapAt w Try.prog 3 b f cnt) (hc : cnt ≤ 100) (hB : w.heap[B]? = some (.cells #[.map (some b)] 75 (0, 0))) :
    Calls Try.prog 35 #[.func (.func 59) #[] #[.pointer (some ⟨B, 0, none⟩)]] w fun e w' => ∃ (v : Value) (ss : List Int), e = .returned v ∧ KeysOf f ss ∧ ss.Pairwise (· < ·) ∧
      w'.ownsRow w.heap.size 3 1 v ss.length (ss.map encZ) ∧ Below w.heap.size w w' := by
  obtain ⟨D, ho, hn, hs⟩ := h
  have hk := keysOf_int ho hs
  obtain ⟨c0, _, z0⟩ := blk1 hB
  have hseq : SeqGives Fence.wide 2 Try.prog 59 #[.pointer (some ⟨B, 0, none⟩)] encZ (fun ss => ss.Perm (intKeys D)) (Maps.size D) w :=
    AnyZI.keys_gives (ρ := chsh.keysC_ren) { chsh.keysC with } Fence.wide _ trivial rfl (by omega) B b cnt D _ z0 c0 ho
  have cS := AnyZI.sorted_in chsh.sortedC Fence.wide 5 trivial trivial trivial trivial rfl (by omega) (sortsA _) (enters_of Try.func58 (by kernel_rfl) rfl) 59 #[.pointer (some ⟨B, 0, none⟩)] trivial (enters_of Try.func59 (by kernel_rfl) rfl) _ _ (by unfold maxLen; omega) (by omega) _ hseq
  refine (callsIn_wide.1 cS).mono ?_
  rintro e w' ⟨v, ss, rfl, hp, hrow, _, hb⟩
  have hm : (ss.mergeSort (fun x y => decide (x ≤ y))).Perm ss := List.mergeSort_perm _ _
  refine ⟨v, _, rfl, KeysOf.perm hk (hm.trans hp), ?_, by rw [List.length_mergeSort]; exact hrow, hb⟩
  have hnd : (ss.mergeSort (fun x y => decide (x ≤ y))).Nodup := (hm.trans hp).nodup_iff.2 hk.1
  have hle := List.pairwise_mergeSort (le := fun x y : Int => decide (x ≤ y)) (fun a b c h1 h2 => by simp only [decide_eq_true_eq] at *; omega) (fun a b => by simp only [Bool.or_eq_true, decide_eq_true_eq]; omega) ss
  refine (List.Pairwise.and hle hnd).imp ?_
  intro a b ⟨h1, h2⟩
  simp only [decide_eq_true_eq] at h1
  omega
theorem int_cell {w : World} {base c : Nat} {a : Option Addr} {ss : List Int} (h : w.ownsRow base 3 1 (.slice a ss.length c) ss.length (ss.map encZ)) {k : Nat} (hk : k < ss.length) :
    ∃ g, a = some ⟨g, 0, none⟩ ∧ g < w.heap.size ∧ w.cell? ⟨g, k, none⟩ = some (.int .i64 ss[k]) := by
  obtain ⟨g, rfl⟩ := own_ptr h (by omega)
  rcases h.2 with ⟨hz, _⟩ | ⟨g', c', cur, e', hg, hh, hc, hm, hsz, hcur⟩
  · simp at hz
  · simp only [Value.slice.injEq, Option.some.injEq, Addr.mk.injEq, and_true, true_and] at e'
    obtain ⟨rfl, _⟩ := e'
    refine ⟨g, rfl, (kit.blk hh).2.2, ?_⟩
    rw [(kit.blk hh).1]
    have h1 : (cur.toList.take (ss.length * 1))[k]? = (ss.map encZ)[k]? := by rw [hcur]
    rw [List.getElem?_take, if_pos (by omega), Array.getElem?_toList] at h1
    rw [h1]
    simp [hk, encZ]

theorem chosen_form (w : World) (nodes : Int) (a : Option Addr) (c : Nat) (l : List Pt) (h : RowP w a l) (hr : rightB nodes (l.map pv) = false) :
    Calls Try.prog 10 #[.int .i64 nodes, .slice a l.length c] w fun e w' => e = .returned (.slice none 0 0) ∧ Below w.heap.size w w' := by
  have HR := Lib.hid (right_ok w nodes a c l h)
  rw [hr] at HR
  clear h hr
  go_enter Try.func10, Try.ntmps10
  go_wp2_with fail
  refine HR.out.mono ?_; rintro e w1 ⟨rfl, hb1⟩
  go_wp2_with fail
  go_ret
  exact ⟨rfl, hb1⟩
/-- Those of a slot's casts that a majority has. -/
def wonC (nodes : Int) (cs : List Ct) (m : Nat) : List Ct := (cs.take m).filter (fun x => wonP nodes (cs.map cvv) (cvv x))
theorem wonC_succ (nodes : Int) (cs : List Ct) (m : Nat) (h : m < cs.length) : wonC nodes cs (m + 1) = wonC nodes cs m ++ if wonP nodes (cs.map cvv) (cvv cs[m]) then [cs[m]] else [] := by
  unfold wonC
  rw [List.take_succ_eq_append_getElem h, List.filter_append]
  congr 1
  cases hh : wonP nodes (cs.map cvv) (cvv cs[m]) <;> simp [List.filter, hh]
theorem wonC_full (nodes : Int) (cs : List Ct) : (wonC nodes cs cs.length).map cvv = (cs.map cvv).filter (wonP nodes (cs.map cvv)) := by
  unfold wonC
  rw [List.take_length, List.filter_map]
  rfl
theorem wonC_mem {nodes : Int} {cs : List Ct} {m : Nat} {x : Ct} (h : x ∈ wonC nodes cs m) : x ∈ cs := List.mem_of_mem_take (List.mem_filter.1 h).1
theorem wonC_len (nodes : Int) (cs : List Ct) (m : Nat) : (wonC nodes cs m).length ≤ cs.length := by
  refine Nat.le_trans (List.length_filter_le _ _) ?_
  rw [List.length_take]; omega
theorem chS_best {nodes : Int} {L : List chp.Pr} {s : Int} {W : List Ct} (hr : chp.Right nodes L) (h : W.map cvv = wonS nodes L s) : chS nodes L s = if 0 < W.length then some (s, (bestC W).2.l) else none := by
  unfold chS
  cases W with
  | nil => rw [← h]; rfl
  | cons x W =>
    have h0 : ((x :: W).map cvv).isEmpty = false := rfl
    rw [← h, h0]
    have hp : ∀ c ∈ (x :: W).map cvv, chp.lessB 0 0 c.2.r c.2.n = true := fun c hc => by
      rw [h] at hc
      exact won_pos hr s c (List.mem_filter.1 hc).1
    have h1 := chp.best_doc ((x :: W).map cvv) none hp
    have h2 : ((x :: W).map cvv).foldl chp.stp (0, 0, []) = chp.outB (((x :: W).map cvv).foldl chp.pick none) := h1
    have h3 : ((x :: W).map cvv).foldl chp.pick none = ((x :: W).foldl pickC none).map cvv := (pick_data (x :: W) none).symm
    rw [h2, h3]
    simp only [Bool.false_eq_true, if_false, List.length_cons]
    rw [if_pos (by omega)]
    unfold bestC
    cases (x :: W).foldl pickC none with
    | none => rfl
    | some y => rfl

theorem chosen_go (w : World) (nodes : Int) (a : Option Addr) (c : Nat) (l : List Pt) (h : RowP w a l) (hr : rightB nodes (l.map pv) = true) :
    Calls Try.prog 10 #[.int .i64 nodes, .slice a l.length c] w fun e w' => ∃ (a' : Option Addr) (c' : Nat) (es : List Et), e = .returned (.slice a' es.length c') ∧ OutE w w' a' c' es (chosenL nodes (l.map pv) (slotsOf (l.map pv))) ∧ Below w.heap.size w w' := by
  obtain ⟨j0, hj, hy0, hy1, hy2⟩ := info_parts infoEntry
  obtain ⟨i0, hi, hz0, hz1, hz2⟩ := info_parts infoCastC
  have HR := Lib.hid (right_ok w nodes a c l h)
  rw [hr] at HR
  have hRt := right_of hr
  have HRT0 := Lib.hid hRt
  have hnod := hRt.1
  have HQ := Lib.hid (fun W => quorum_any nodes hnod.1 hnod.2 W)
  have HC := Lib.hid (fun w1 (hb : Below w.heap.size w w1) => cut_ok w1 nodes a c l (h.below hb) hRt)
  have HH := Lib.hid (fun (wr : World) (hb : Below w.heap.size w wr) => h.below hb)
  obtain ⟨L, hL⟩ : ∃ L, L = l.map pv := ⟨_, rfl⟩
  have hRT := hRt
  rw [← hL] at hRT ⊢
  have HRT := Lib.hid hRT
  have hsl : (slotsOf L).length ≤ 80 := by
    have h16 := right_size hRt
    have := slots_len (k := 16) (slots_of L) (fun p hp => by
      rw [hL] at hp
      obtain ⟨q, hq, rfl⟩ := List.mem_map.1 hp
      simpa [pv] using h16.2 q hq)
    have h5 := h16.1
    rw [hL, List.length_map] at this
    rw [hL]
    omega
  have HLL := Lib.hid hL
  have HSLO := Lib.hid (slots_range hRT (slots_of L))
  clear h hr hRt hL hRT
  go_enter Try.func10, Try.ntmps10
  go_wp2_with fail
  refine HR.out.mono ?_; rintro e w1 ⟨rfl, hb1⟩
  have HC1 := Lib.hid (HC.out w1 hb1)
  have HB1 := Lib.hid hb1
  clear hb1 HC HR
  go_wp2_with fail
  refine HC1.out.mono ?_; rintro e w2 ⟨mb, r, rfl, hrp, hrs, hcut, hb2⟩
  have hb02 := below_step HB1.out hb2
  have HCUT := Lib.hid hcut
  obtain ⟨⟨f, cnt, V, hmap, hcn, hfV, hrows, hdist⟩, hmlo⟩ := hcut
  have HKEY : Hid (∀ s, (f (.int .i64 s)).isSome = true ↔ ∃ p ∈ L, ∃ v ∈ p.vs, v.s = s) := by
    rw [HLL.out]
    intro s
    rw [← cut_slots hrp s]
    constructor
    · intro hs e
      rw [((hfV s).1 e).1] at hs
      simp at hs
    · intro hs
      rw [(hfV s).2 hs]; rfl
  obtain ⟨w3, hw3⟩ : ∃ w3, w3 = w2.alloc (.cells #[.map (some mb)] 75) := ⟨_, rfl⟩
  have hn3 : w3.heap[w2.heap.size]? = some (.cells #[.map (some mb)] 75 (0, 0)) := by rw [hw3]; exact hp_alloc_new _ _
  have hb3 : Below w2.heap.size w2 w3 := by rw [hw3]; exact below_new1 _ _
  have HSO := Lib.hid (sortedC w3 w2.heap.size mb cnt f (hmap.below hb3) (by omega) hn3)
  have HKS := Lib.hid (keysC (some mb) w2)
  have HRP := Lib.hid hrp
  have HRS := Lib.hid hrs
  have HB3 := Lib.hid (below_step hb02 hb3)
  have HCUT3 := Lib.hid (HCUT.out.below hb3)
  have HW3 := Lib.hid hw3
  clear HC1 hrp hrs hb2 hb02 hfV hrows hdist hmap hn3 hb3 hw3 HCUT
  go_wp2_with fail
  refine HKS.out.mono ?_; rintro e w3' ⟨rfl, hw3'⟩
  rw [← HW3.out] at hw3'
  subst hw3'
  go_wp2_with fail
  refine HSO.out.mono ?_; rintro e w4 ⟨v4, ss, rfl, hks, hss, hrow4, hb4⟩
  obtain ⟨ai, ci, rfl⟩ := own_shape hrow4
  have hsse : ss = slotsOf L := slots_one (l := L) ⟨hss, fun x => (hks.2 x).trans (HKEY.out x)⟩ (slots_of L)
  subst hsse
  have HR4 := Lib.hid hrow4
  have HB4 := Lib.hid (below_step HB3.out hb4)
  have HCUT4 := Lib.hid (HCUT3.out.below hb4)
  clear HSO HKS hks hss hrow4 hb4 HCUT3 HKEY
  go_wp2_with fail
  go_loopw [6, 27] (fun o i wr => ∃ k : Nat, k ≤ (slotsOf L).length ∧ i = .int .i64 k ∧ Hid (∃ a c es, o = .slice a es.length c ∧ OutE w4 wr a c es (chosenL nodes L ((slotsOf L).take k))) ∧ Hid (Below w4.heap.size w4 wr)) (fun _ i _ => (slotsOf L).length - (RowKit.intOf i).toNat)
  case atStart => exact ⟨0, Nat.zero_le _, rfl, ⟨none, 0, [], rfl, outE_nil _ _⟩, Below.refl _ _⟩
  case round =>
    obtain ⟨k, hk, rfl, HO, HB⟩ := hrel
    by_cases hlt : k < (slotsOf L).length
    · obtain ⟨g, hai, hgz, x0⟩ := int_cell (own_below HR4.out HB.out) hlt
      have hsr := HSLO.out _ (List.getElem_mem hlt)
      obtain ⟨ao, co, es, rfl, hO⟩ := HO.out
      have hel : es.length ≤ 80 := by
        rw [hO.size]
        refine Nat.le_trans (chosenL_len _ _ _) ?_
        rw [List.length_take]; omega
      have hck : (slotsOf L).take (k + 1) = (slotsOf L).take k ++ [(slotsOf L)[k]] := List.take_succ_eq_append_getElem hlt
      have hsnc := chosenL_snoc nodes L ((slotsOf L).take k) (slotsOf L)[k]
      rw [← hck] at hsnc
      obtain ⟨s, hs⟩ : ∃ s, s = (slotsOf L)[k] := ⟨_, rfl⟩
      rw [← hs] at hsr x0 hsnc
      have hBw : Below w.heap.size w wr := below_step HB4.out HB.out
      have hcutr := HCUT4.out.below HB.out
      obtain ⟨a1, c1, hrow1, hlk⟩ := hcutr.look (s := s) (by omega) (by omega)
      have HMB : Hid (∀ wx, Below wr.heap.size wr wx → wx.heap[mb]? = wr.heap[mb]?) := fun wx hb => hb.block mb hcutr.lt
      have hdat : (r.flatMap (atT s)).map cvv = chp.forS L s := by rw [HLL.out]; exact cut_data HRP.out HRS.out (by rw [← HLL.out]; exact HRT.out) s
      have hrds := fun (wx : World) (hb : Below w.heap.size w wx) => cast_rd (HH.out wx hb) HRP.out s
      have hcl : (r.flatMap (atT s)).length ≤ 400 := by
        have h1 := congrArg List.length hdat
        rw [List.length_map] at h1
        have h2 := right_size (l := l) (nodes := nodes) (by rw [← HLL.out]; exact HRT.out)
        have h3 := inN_len (slot := s) (n := 5) h2.1 h2.2
        have h4 := congrArg List.length (inN_data s l)
        rw [List.length_map, ← HLL.out] at h4
        omega
      obtain ⟨cs, hcs⟩ : ∃ cs, cs = r.flatMap (atT s) := ⟨_, rfl⟩
      rw [← hcs] at hrow1 hlk hdat hrds hcl
      obtain ⟨D, hD⟩ : ∃ D, D = cs.map cvv := ⟨_, rfl⟩
      have hDS : D = chp.forS L s := by rw [hD, hdat]
      have HROW := Lib.hid hrow1
      have HLK := Lib.hid (fun wx hb => hlk wx (HMB.out wx hb))
      have HRDS := Lib.hid hrds
      have HDD := Lib.hid hD
      have HDS := Lib.hid hDS
      have HOE := Lib.hid hO
      have HSNC := Lib.hid hsnc
      have HBw := Lib.hid hBw
      have hlk0 := HLK.out wr (Below.refl _ _)
      rw [hai]
      clear hO hck hsnc hs HO hBw hcutr hrow1 hlk hdat hrds hcs hD hDS
      go_upto_region 10 with fail
      clear x0 hgz hlk0
      go_loopw [9, 35] (fun o i wi => ∃ (m : Nat) (aw : Option Addr) (cw : Nat), m ≤ cs.length ∧ i = .int .i64 m ∧ o = .slice aw (wonC nodes cs m).length cw ∧ Hid (wi.ownsRow wr.heap.size 78 5 (.slice aw (wonC nodes cs m).length cw) (wonC nodes cs m).length ((wonC nodes cs m).flatMap ccells)) ∧ Hid (Below wr.heap.size wr wi)) (fun _ i _ => cs.length - (RowKit.intOf i).toNat)
      case atStart => exact ⟨0, none, 0, Nat.zero_le _, rfl, rfl, World.ownsRow_nil _ _ _ _, Below.refl _ _⟩
      case round =>
        obtain ⟨wi, rfl⟩ : ∃ wi : World, wi = wr := ⟨_, rfl⟩
        obtain ⟨m, aw, cw, hm, rfl, rfl, HW, HBI⟩ := hrel
        have hwl := wonC_len nodes cs m
        by_cases hmt : m < cs.length
        · have HRK := Lib.hid (fun (wx : World) (hb : Below wr.heap.size wr wx) (j : Nat) (hj : j < cs.length) => che.RowK.cells (⟨own_below HROW.out hb, HRDS.out wx (below_step HBw.out hb)⟩ : che.RowK wx w1.heap.size 78 a1 c1 cs) hj)
          obtain ⟨g, ha1, hgz, hmx, x0, x1, x2, x3, x4⟩ := HRK.out wi HBI.out m hmt
          have hws := wonC_succ nodes cs m hmt
          have hxm := List.getElem_mem hmt
          obtain ⟨x, hx⟩ : ∃ x, x = cs[m] := ⟨_, rfl⟩
          rw [← hx] at x0 x1 x2 x3 x4 hws hxm
          obtain ⟨xn, xv⟩ := x
          dsimp only at x0 x1 x2 x3 x4
          obtain ⟨w5, hw5⟩ : ∃ w5, w5 = wi.alloc (.cells #[.int .i64 xn, .int .i64 xv.s, .int .i64 xv.r, .int .i64 xv.n, .slice xv.a xv.l.length xv.c] 78) := ⟨_, rfl⟩
          have hn5 : w5.heap[wi.heap.size]? = some (.cells #[.int .i64 xn, .int .i64 xv.s, .int .i64 xv.r, .int .i64 xv.n, .slice xv.a xv.l.length xv.c] 78 (0, 0)) := by rw [hw5]; exact hp_alloc_new _ _
          have hb5 : Below wi.heap.size wi w5 := by rw [hw5]; exact below_new1 _ _
          obtain ⟨xb, hxb⟩ : ∃ xb, xb = wi.heap.size := ⟨_, rfl⟩
          rw [← hxb] at hn5
          have HWS := Lib.hid hws
          have HXM := Lib.hid hxm
          have HB5 := Lib.hid (below_step HBI.out hb5)
          have HBI5 := Lib.hid hb5
          have HN5 := Lib.hid hn5
          have HW5 := Lib.hid hw5
          have HXB := Lib.hid hxb
          have hlk5 := HLK.out w5 HB5.out
          have hdl : D.length = cs.length := by rw [HDD.out, List.length_map]
          have hcl2 : cs.length ≤ 9223372036854775807 := by omega
          clear hws hxm hx hw5 hn5 hb5 hxb
          rw [ha1]
          rw [ha1] at hlk5
          go_upto_region 12 with fail
          rw [← HW5.out, ← HXB.out]
          clear x0 x1 x2 x3 x4 hgz HW5
          go_upto_region 14 with fail
          clear hlk5
          go_loopw [12, 43] (fun n i wj => ∃ j : Nat, j ≤ cs.length ∧ i = .int .i64 j ∧ n = .int .i64 (((D.take j).filter (sameV (cvv (xn, xv)))).length : Nat) ∧ Hid (Below w5.heap.size w5 wj)) (fun _ i _ => cs.length - (RowKit.intOf i).toNat)
          case atStart => exact ⟨0, Nat.zero_le _, rfl, rfl, Below.refl _ _⟩
          case round =>
            obtain ⟨wj, rfl⟩ : ∃ wj : World, wj = wr := ⟨_, rfl⟩
            obtain ⟨j, hj', rfl, rfl, HBJ⟩ := hrel
            have hNl : ((D.take j).filter (sameV (cvv (xn, xv)))).length ≤ j := by
              refine Nat.le_trans (List.length_filter_le _ _) ?_
              rw [List.length_take]; omega
            obtain ⟨y0, y1, y2, y3, y4, yz⟩ := blk5 (hp_step HN5.out HBJ.out)
            have HB5J := Lib.hid (below_step HB5.out HBJ.out)
            by_cases hjt : j < cs.length
            · obtain ⟨g', e', hgz', -, z0, z1, z2, z3, z4⟩ := HRK.out wj HB5J.out j hjt
              rw [ha1] at e'
              simp only [Option.some.injEq, Addr.mk.injEq, and_true] at e'
              subst e'
              have hrdx : Rd wj xv := HRDS.out wj (below_step HBw.out HB5J.out) _ HXM.out
              have hrdy : Rd wj cs[j].2 := HRDS.out wj (below_step HBw.out HB5J.out) _ (List.getElem_mem hjt)
              have hfl : (D.take (j + 1)).filter (sameV (cvv (xn, xv))) = (D.take j).filter (sameV (cvv (xn, xv))) ++ if sameV (cvv (xn, xv)) (cvv cs[j]) then [cvv cs[j]] else [] := by
                rw [hDj HDD.out.symm j hjt, List.filter_append]
                congr 1
                cases hh : sameV (cvv (xn, xv)) (cvv cs[j]) <;> simp [List.filter, hh]
              obtain ⟨y, hy⟩ : ∃ y, y = cs[j] := ⟨_, rfl⟩
              rw [← hy] at z0 z1 z2 z3 z4 hrdy hfl
              obtain ⟨yn, yv⟩ := y
              dsimp only at z0 z1 z2 z3 z4 hrdy
              have hsv : sameV (cvv (xn, xv)) (cvv (yn, yv)) = ((yv.r == xv.r && yv.n == xv.n) && sameB yv.l xv.l) := rfl
              rw [hsv] at hfl
              obtain ⟨N, hN⟩ : ∃ N, N = ((D.take j).filter (sameV (cvv (xn, xv)))).length := ⟨_, rfl⟩
              have hfl2 := congrArg List.length hfl
              rw [List.length_append, ← hN] at hfl2
              rw [← hN] at hNl ⊢
              obtain ⟨w7, hw7⟩ : ∃ w7, w7 = wj.alloc (.cells #[.int .i64 yn, .int .i64 yv.s, .int .i64 yv.r, .int .i64 yv.n, .slice yv.a yv.l.length yv.c] 78) := ⟨_, rfl⟩
              have hn7 : w7.heap[wj.heap.size]? = some (.cells #[.int .i64 yn, .int .i64 yv.s, .int .i64 yv.r, .int .i64 yv.n, .slice yv.a yv.l.length yv.c] 78 (0, 0)) := by rw [hw7]; exact hp_alloc_new _ _
              have hb7 : Below wj.heap.size wj w7 := by rw [hw7]; exact below_new1 _ _
              obtain ⟨yb, hyb⟩ : ∃ yb, yb = wj.heap.size := ⟨_, rfl⟩
              rw [← hyb] at hn7
              have HEQ := Lib.hid (equal_any yv.l xv.l yv.a xv.a yv.c xv.c w7 hrdy.byt hrdx.byt (hrdy.lie.below hb7) (hrdx.lie.below hb7))
              have hbq := fun w => eqBallot w yv.r yv.n xv.r xv.n
              have HB7 := Lib.hid (below_step HBJ.out hb7)
              have HX7 := Lib.hid (hp_step (hp_step HN5.out HBJ.out) hb7)
              have HN7 := Lib.hid hn7
              have HW7 := Lib.hid hw7
              have HYB := Lib.hid hyb
              have HFL := Lib.hid hfl2
              clear hrdx hrdy hy hsv hfl hfl2 hN hw7 hn7 hb7 hyb y0 y1 y2 y3 y4 yz
              go_upto_region 16 with fail
              rw [← HW7.out, ← HYB.out]
              clear z0 z1 z2 z3 z4 hgz'
              obtain ⟨y0, y1, y2, y3, y4, yz⟩ := blk5 HX7.out
              obtain ⟨z0, z1, z2, z3, z4, zz⟩ := blk5 HN7.out
              cases e2 : (yv.r == xv.r && yv.n == xv.n) with
              | false =>
                rw [e2] at hbq HFL
                clear e2
                go_wp2_with fail
                go_roundw
                case rel => exact ⟨j + 1, by omega, by go_num, by rw [HFL.out]; simp, HB7⟩
                case measure => simp [RowKit.intOf]; omega
              | true =>
                rw [e2] at hbq HFL
                clear e2
                cases e3 : sameB yv.l xv.l with
                | false =>
                  rw [e3] at HEQ HFL
                  clear e3
                  go_wp2_with fail
                  refine HEQ.out.mono ?_; rintro e w8 ⟨rfl, rfl⟩
                  go_wp2_with fail
                  go_roundw
                  case rel => exact ⟨j + 1, by omega, by go_num, by rw [HFL.out]; simp, HB7⟩
                  case measure => simp [RowKit.intOf]; omega
                | true =>
                  rw [e3] at HEQ HFL
                  clear e3
                  go_wp2_with fail
                  refine HEQ.out.mono ?_; rintro e w8 ⟨rfl, rfl⟩
                  go_wp2_with fail
                  go_roundw
                  case rel => exact ⟨j + 1, by omega, by go_num, by rw [HFL.out]; simp, HB7⟩
                  case measure => simp [RowKit.intOf]; omega
            · obtain rfl : j = cs.length := by omega
              have hDl : D.take cs.length = D := by rw [← hdl]; exact List.take_length
              rw [hDl] at hNl ⊢
              have hwon : wonP nodes D (cvv (xn, xv)) = decide (nodes < 2 * (((D.filter (sameV (cvv (xn, xv)))).length : Nat) : Int)) := rfl
              have HWS2 := Lib.hid (show wonC nodes cs (m + 1) = wonC nodes cs m ++ if wonP nodes D (cvv (xn, xv)) then [(xn, xv)] else [] by rw [HDD.out]; exact HWS.out)
              rw [hwon] at HWS2
              obtain ⟨N, hN⟩ : ∃ N, N = (D.filter (sameV (cvv (xn, xv)))).length := ⟨_, rfl⟩
              rw [← hN] at hNl HWS2 ⊢
              have HQJ := Lib.hid (HQ.out wj)
              have HBIJ := Lib.hid (below_step HB5.out HBJ.out)
              have HWJ := Lib.hid (own_below HW.out (below_step HBI5.out HBJ.out))
              clear hDl hwon hN
              by_cases hq : nodes < 2 * (N : Int)
              · rw [decide_eq_true hq, if_pos rfl] at HWS2
                have t1 : decide (nodes / 2 + 1 ≤ (N : Int)) = true := decide_eq_true (by omega)
                clear hq
                go_wp2_with fail
                refine HQJ.out.mono ?_; rintro e w8 ⟨rfl, rfl⟩
                obtain ⟨W, hW⟩ : ∃ W, W = wonC nodes cs m := ⟨_, rfl⟩
                rw [← hW] at hwl HWS2 HWJ ⊢
                have hszw := HBIJ.out.size
                clear hW HW
                go_wp2_with (at_builtin; refine wpl_append rfl (.tmp 70) (.tmp 72) 81 rfl wr.heap.size 78 i0 _ 5 56 Try.underlying81 hi hz0 hz1 hz2 rfl (by decide) _ W.length (W.flatMap ccells) rfl (HWJ.out.alloc _) (some ⟨wj.heap.size, 0, none⟩) 1 1 (ccells (xn, xv)) rfl (by simp) rfl (lie_new5 _ _ _ _ _ _ _) (by simp [ccells, Value.oneCell']) (by unfold maxLen; omega) (by omega) (by rw [size_new]; omega) ?_)
                intro v8 w8 hown hgr
                obtain ⟨a8, c8, rfl⟩ := own_shape hown
                have HB8 : Hid (Below wr.heap.size wr w8) := (below_step HBIJ.out (below_new1 wj _)).grown hgr (by rw [size_new]; omega) (fun j hj => (HWJ.out.lt j hj).1)
                have hwl2 : (wonC nodes cs (m + 1)).length = W.length + 1 := by rw [HWS2.out]; simp
                have HW8 : Hid (w8.ownsRow wr.heap.size 78 5 (.slice a8 (wonC nodes cs (m + 1)).length c8) (wonC nodes cs (m + 1)).length ((wonC nodes cs (m + 1)).flatMap ccells)) := by
                  simp only [Hid]
                  rw [hwl2, HWS2.out]
                  simpa using hown
                have HWL := Lib.hid hwl2
                clear hown hgr hwl2
                go_wp2_with fail
                go_roundw
                case rel => exact ⟨m + 1, a8, c8, by omega, by go_num, by rw [HWL.out], HW8, HB8⟩
                case measure => simp [RowKit.intOf]; omega
              · rw [decide_eq_false hq, if_neg (by simp), List.append_nil] at HWS2
                have t1 : decide (nodes / 2 + 1 ≤ (N : Int)) = false := decide_eq_false (by omega)
                clear hq
                go_wp2_with fail
                refine HQJ.out.mono ?_; rintro e w8 ⟨rfl, rfl⟩
                go_wp2_with fail
                go_roundw
                case rel => exact ⟨m + 1, aw, cw, by omega, by go_num, by rw [HWS2.out], by rw [HWS2.out]; exact HWJ, HBIJ⟩
                case measure => simp [RowKit.intOf]; omega
        · obtain rfl : m = cs.length := by omega
          have hwS : (wonC nodes cs cs.length).map cvv = wonS nodes L s := by
            rw [wonC_full, ← HDD.out, HDS.out]; rfl
          have hchs := chS_best HRT.out hwS
          have hrdw : ∀ x ∈ wonC nodes cs cs.length, Rd wi x.2 := fun x hx => HRDS.out wi (below_step HBw.out HBI.out) x (wonC_mem hx)
          obtain ⟨W, hW⟩ : ∃ W, W = wonC nodes cs cs.length := ⟨_, rfl⟩
          rw [← hW] at hchs hrdw HW hwl ⊢
          have HBE := Lib.hid (bestChosen_ok wi wr.heap.size cw aw W ⟨HW.out, hrdw⟩ (by omega))
          have hbr := best_rd hrdw
          obtain ⟨b, hb⟩ : ∃ b, b = bestC W := ⟨_, rfl⟩
          rw [← hb] at HBE hbr hchs
          rw [hchs] at HSNC
          have HBR := Lib.hid hbr
          have hbl := hbr.len
          clear hwS hchs hrdw hW hbr hb HW
          go_wp2_with fail
          refine HBE.out.mono ?_; rintro e w5 ⟨rfl, hb5⟩
          obtain ⟨w6, hw6⟩ : ∃ w6, w6 = w5.alloc (.cells #[.int .i64 b.1, .int .i64 b.2.s, .int .i64 b.2.r, .int .i64 b.2.n, .slice b.2.a b.2.l.length b.2.c] 78) := ⟨_, rfl⟩
          have hn6 : w6.heap[w5.heap.size]? = some (.cells #[.int .i64 b.1, .int .i64 b.2.s, .int .i64 b.2.r, .int .i64 b.2.n, .slice b.2.a b.2.l.length b.2.c] 78 (0, 0)) := by rw [hw6]; exact hp_alloc_new _ _
          have hb6 : Below wi.heap.size wi w6 := by rw [hw6]; exact below_step hb5 (below_new1 _ _)
          obtain ⟨cb, hcb⟩ : ∃ cb, cb = w5.heap.size := ⟨_, rfl⟩
          rw [← hcb] at hn6
          obtain ⟨y0, y1, y2, y3, y4, yz⟩ := blk5 hn6
          have HCL := Lib.hid (clone_any b.2.l b.2.a b.2.c w6 HBR.out.len HBR.out.nil (HBR.out.lie.below hb6))
          have HB6 := Lib.hid (below_step HBI.out hb6)
          have HW6 := Lib.hid hw6
          have HCB := Lib.hid hcb
          have HO6 := Lib.hid (HOE.out.below (below_step HBI.out hb6))
          have HB46 := Lib.hid (below_step HB.out (below_step HBI.out hb6))
          clear hn6 hb6 hw6 hcb hb5 HBE
          by_cases h0 : 0 < W.length
          · rw [if_pos h0] at HSNC
            have t1 : decide (0 < W.length) = true := decide_eq_true h0
            have HENT : Hid (chosenL nodes L ((slotsOf L).take (k + 1)) = chosenL nodes L ((slotsOf L).take k) ++ [(s, b.2.l)]) := HSNC.out
            clear h0
            go_upto_region 23 with fail
            rw [← HW6.out, ← HCB.out]
            go_wp2_with fail
            refine HCL.out.mono ?_; rintro e w7 ⟨v7, rfl, hown7, hb7⟩
            obtain ⟨a7, c7, rfl⟩ := own_shape hown7
            have HO7 := Lib.hid (HO6.out.below hb7)
            have HBODY := Lib.hid (own_mono hown7 (show w4.heap.size ≤ w6.heap.size from HB46.out.size))
            have HB47 := Lib.hid (below_step HB46.out hb7)
            have hsz7 : w4.heap.size ≤ w7.heap.size := HB47.out.size
            clear hown7 hb7 HCL y0 y1 y2 y3 y4 yz
            go_wp2_with (at_builtin; refine wpl_append rfl (.tmp 81) (.tmp 88) 24 rfl w4.heap.size 39 j0 _ 2 32 Try.underlying24 hj hy0 hy1 hy2 rfl (by decide) _ es.length (es.flatMap Et.cells) rfl (HO7.out.own.row.alloc _) (some ⟨w7.heap.size, 0, none⟩) 1 1 [.int .i64 s, .slice a7 b.2.l.length c7] rfl (by simp) rfl (cho.lie_new2 _ _ _ _) (by simp [Value.oneCell']) (by unfold maxLen; omega) (by omega) (by rw [size_new]; omega) ?_)
            intro v8 w8 hown hgr
            obtain ⟨a8, c8, rfl, hO8⟩ := OutE.step HO7.out HBODY.out hbl hgr hown
            rw [← HENT.out] at hO8
            have HB8 : Hid (Below w4.heap.size w4 w8) := (below_step HB47.out (below_new1 w7 _)).grown hgr (by rw [size_new]; omega) (fun j hj => (HO7.out.own.row.lt j hj).1)
            have HO8 := Lib.hid hO8
            clear hown hgr hO8
            go_wp2_with fail
            go_roundw
            case rel => exact ⟨k + 1, by omega, by go_num, ⟨a8, c8, _, rfl, HO8.out⟩, HB8⟩
            case measure => simp [RowKit.intOf]; omega
          · rw [if_neg h0] at HSNC
            have t1 : decide (0 < W.length) = false := decide_eq_false h0
            have HENT : Hid (chosenL nodes L ((slotsOf L).take (k + 1)) = chosenL nodes L ((slotsOf L).take k)) := by
              have h9 := HSNC.out
              rw [Option.toList_none, List.append_nil] at h9
              exact h9
            clear h0
            go_upto_region 23 with fail
            rw [← HW6.out, ← HCB.out]
            go_wp2_with fail
            go_roundw
            case rel => exact ⟨k + 1, by omega, by go_num, ⟨ao, co, es, rfl, by rw [HENT.out]; exact HO6.out⟩, HB46⟩
            case measure => simp [RowKit.intOf]; omega
    · obtain rfl : k = (slotsOf L).length := by omega
      obtain ⟨ao, co, es, rfl, hO⟩ := HO.out
      rw [List.take_length] at hO
      have HOE := Lib.hid hO
      clear hO HO
      go_wp2_with fail
      go_ret
      exact ⟨ao, co, es, rfl, ⟨HOE.out.own.mono HB4.out.size, HOE.out.data, HOE.out.len⟩, below_step HB4.out HB.out⟩
theorem chosen_ok (w : World) (nodes : Int) (a : Option Addr) (c : Nat) (l : List Pt) (h : RowP w a l) :
    Calls Try.prog 10 #[.int .i64 nodes, .slice a l.length c] w (ChosenR w nodes (l.map pv)) := by
  cases hr : rightB nodes (l.map pv) with
  | false =>
    refine (chosen_form w nodes a c l h hr).mono ?_
    rintro e w' ⟨h1, h2⟩
    exact ⟨none, 0, [], h1, by unfold chosenA; rw [if_neg (right_no hr)]; exact outE_nil _ _, h2⟩
  | true =>
    refine (chosen_go w nodes a c l h hr).mono ?_
    rintro e w' ⟨a', c', es, h1, h2, h3⟩
    exact ⟨a', c', es, h1, by unfold chosenA; rw [if_pos (right_of hr)]; exact h2, h3⟩
end Go.Proofs.Ytodoncmielfbeaa.chch
