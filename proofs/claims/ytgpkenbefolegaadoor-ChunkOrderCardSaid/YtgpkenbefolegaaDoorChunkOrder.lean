/-
  The statement ChunkOrder: in which order pieces come, and how often, plays no part in what a box lacks and has.
-/
import Derived.Test.YtgpkenbefolegaaDoorPieces
import Derived.Test.YtgpkenbefolegaaDoorAwake
import Derived.Test.YtgpkenbefolegaaDoorOrderPlain
import Derived.Test.YtgpkenbefolegaaDoorPlainInt
import Derived.Test.YtgpkenbefolegaaDoorCutAll
import Derived.Test.YtgpkenbefolegaaDoorRows
import Derived.Test.YtgpkenbefolegaaDoorCards
import Derived.Test.YtgpkenbefolegaaDoorTie
namespace Go.Proofs.YtgpkenbefolegaaDoor.chunkOrder
open Go.ChangeShapes Go.WideShapes Go.ChangeAt Go.RowKit
open Go.Proofs.YtgpkenbefolegaaDoor.kit Go.Proofs.YtgpkenbefolegaaDoor.mapkit Go.Proofs.YtgpkenbefolegaaDoor.byt Go.Proofs.YtgpkenbefolegaaDoor.sum Go.Proofs.YtgpkenbefolegaaDoor.cut Go.Proofs.YtgpkenbefolegaaDoor.laid Go.Proofs.YtgpkenbefolegaaDoor.box
set_option linter.unusedVariables false
set_option linter.unusedSimpArgs false
set_option maxHeartbeats 2000000
set_option maxRecDepth 100000

/-- A piece of a list of the call's own is good. -/
theorem own_good {w : World} {base : Nat} {v : Value} {ps : List PieceV} {l : List Nat} (h : PiecesAt w base v ps) (hl : l.length ≤ 8192) (hby : Byt l) (hp : ∀ i (h : i < ps.length), IsPart l i ps[i]) (i : Nat) (hi : i < ps.length) : GoodP w ps[i] := by
  have hd := h.2 ps[i] (List.getElem_mem hi)
  obtain ⟨h1, h2, h3, h4⟩ := hp i hi
  obtain ⟨a, c, e, e1, e2, e3⟩ := own_shape hd
  simp only [Value.slice.injEq, true_and] at e
  obtain ⟨ea, ec⟩ := e
  rw [← ea, ← ec] at e1
  rw [← ec] at e2 e3
  have hn := nOf_le16 hl
  refine ⟨(data_lie hd).2, ?_, ?_, e1, e2, e3, by rw [h2]; omega⟩
  · rw [h4]
    intro x hx
    exact hby x (List.mem_of_mem_drop (List.mem_of_mem_take hx))
  · rw [h3]; simp only [sumL]; omega

theorem idx_facts (x : Int) (n : Nat) (hn : 0 < n) (hn2 : n ≤ 16) (hx : -9223372036854775808 ≤ x ∧ x ≤ 9223372036854775807) :
    ∃ u i : Nat, IntKind.u64.wrap x = (u : Int) ∧ i < n ∧ (u : Int).tmod (n : Int) = (i : Int) ∧ IntKind.u64.wrap (n : Int) = n ∧ IntKind.u64.wrap (i : Int) = i ∧ IntKind.i64.wrap (i : Int) = i ∧ i = u % n := by
  obtain ⟨u, hu⟩ : ∃ u : Nat, IntKind.u64.wrap x = (u : Int) := ⟨(IntKind.u64.wrap x).toNat, by rw [IntKind.wrap_u64]; omega⟩
  refine ⟨u, u % n, hu, Nat.mod_lt _ hn, by rw [Int.ofNat_tmod], ?_, ?_, ?_, rfl⟩
  · rw [IntKind.wrap_u64]; omega
  · have := Nat.mod_lt u hn
    rw [IntKind.wrap_u64]; omega
  · have := Nat.mod_lt u hn
    exact IntWalk.i64_in _ (by omega)


/-- The index of a piece that an order names. -/
def ixOf (n : Nat) (x : Int) : Nat := (IntKind.u64.wrap x).toNat % n

theorem walk_short (l : List Nat) (a : Option Addr) (cap : Nat) (O : List Int) (oa : Option Addr) (ocap : Nat) (w : World) (hl : l.length ≤ 140737488351232) (hlc : l.length ≤ cap) (hcm : cap ≤ 9223372036854775807) (hn : a = none → l.length = 0 ∧ cap = 0) (hby : Byt l) (ht : Tab w) (hat : Lie w a (bcells l))
    (hol : O.length ≤ ocap) (hoc : ocap ≤ 9223372036854775807) (hoa : Lie w oa (O.map (Value.int .i64))) (hov : ∀ x ∈ O, -9223372036854775808 ≤ x ∧ x ≤ 9223372036854775807) (hlong : l.length ≤ 8192) :
    Calls Tryd.prog 6 #[.slice a l.length cap, .slice oa O.length ocap] w fun e w' => e = .returned (.bool true) ∧ Below w.heap.size w w' := by
  have HAT := Lib.hid hat
  have HBY := Lib.hid hby
  have HT := Lib.hid ht
  have HOV := Lib.hid hov
  obtain ⟨on, hon⟩ : ∃ n, n = O.length := ⟨_, rfl⟩
  rw [← hon] at hol ⊢
  have HON := Lib.hid hon
  have hC2 := cut_all l a cap w hl hlc hcm hn hby ht hat
  rw [show codeOf l = 0 by rw [codeOf, if_pos hlong], show nnOf l = nOf l by rw [nnOf, if_pos hlong]] at hC2
  have HC2 := Lib.hid hC2
  obtain ⟨og, ooff, hoaE⟩ : ∃ og ooff, (0 < on → oa = some ⟨og, ooff, none⟩ ∧ og < w.heap.size ∧ ∀ i, i < (O.map (Value.int .i64)).length → w.cell? ⟨og, ooff + i, none⟩ = (O.map (Value.int .i64))[i]?) := by
    rcases hoa with h | ⟨b, off, h1, h2, h3⟩
    · exact ⟨0, 0, fun h0 => by have := List.map_eq_nil_iff.1 h; rw [hon, this] at h0; simp at h0⟩
    · exact ⟨b, off, fun _ => ⟨h1, h2, h3⟩⟩
  have HOA := Lib.hid hoaE
  have hn16 := nOf_le16 hlong
  have hn1 := nOf_pos l
  obtain ⟨n, hnn⟩ : ∃ n, n = nOf l := ⟨_, rfl⟩
  rw [← hnn] at hn16 hn1
  have HN := Lib.hid hnn
  clear hat hby ht hn hov hon hC2 hoa hoaE hnn
  go_enter Tryd.func6, Tryd.ntmps6
  go_wp2_with fail
  refine HC2.out.mono ?_; rintro e w1 ⟨v, ps, rfl, hps, hpl, hpart, hb1⟩
  have HPT := Lib.hid hpart
  rw [← HN.out] at hpl
  obtain ⟨pg, pcap, e1, hpg⟩ := owned_some hps.1 (by omega)
  obtain ⟨pa, pc, rfl, hpn, hpc, hpcm⟩ := own_shape hps.1
  simp only [Value.slice.injEq] at e1
  obtain ⟨rfl, -, -⟩ := e1
  have HPS := Lib.hid hps
  clear hps hpart hpg hpn
  rw [hpl]
  have hnz : ¬ (n : Int) = 0 := by omega
  have hnz2 : ((n : Int) == 0) = false := by simp; omega
  go_wp2_with fail
  refine (awake_ok _ (cut.Tab.below HT.out hb1)).mono ?_; rintro e w2 ⟨rfl, hb2⟩
  have hB2 : Below w.heap.size w w2 := below_step hb1 hb2
  have HPS2 := Lib.hid (HPS.out.below hb2)
  go_wp2_with fail
  refine (new_ok _).mono ?_; rintro e w3 ⟨ba, ma, rfl, hbxa, hb3⟩
  have HA3 := Lib.hid hbxa
  clear hbxa
  go_wp2_with fail
  refine (new_ok _).mono ?_; rintro e w4 ⟨bb, mb, rfl, hbxb, hb4⟩
  have hB24 : Below w2.heap.size w2 w4 := below_step hb3 hb4
  have hdis : (ba < w3.heap.size ∧ ma < w3.heap.size) ∧ w3.heap.size ≤ bb ∧ w3.heap.size ≤ mb := ⟨⟨HA3.out.lt.1, HA3.out.lt.2.1⟩, hbxb.lob, hbxb.lom⟩
  have HDIS := Lib.hid hdis
  have HA4 := Lib.hid (HA3.out.below hb4)
  have HB4 : Hid (BoxAt w4 w2.heap.size bb mb empty) := ⟨by have := hbxb.lob; have := hb3.size; omega, by have := hbxb.lom; have := hb3.size; omega, hbxb.blk, by
      obtain ⟨f, h1, h2⟩ := hbxb.map
      exact ⟨f, h1, fun i hi => h2 i hi⟩, hbxb.wf⟩
  clear hbxb hdis
  go_wp2_with fail
  go_loopw [9] (fun i wr => ∃ (k : Nat) (V : BoxV), k ≤ on ∧ i = .int .i64 k ∧ Hid (BoxAt wr w2.heap.size ba ma V) ∧ Hid (BoxAt wr w2.heap.size bb mb empty) ∧ Hid (SomeOf l V) ∧ Hid (Has V (fun i => ∃ j, j < k ∧ ixOf n (O.getD j 0) = i)) ∧ Below w2.heap.size w2 wr) (fun i _ => on - (intOf i).toNat)
  case atStart => exact ⟨0, _, Nat.zero_le _, rfl, HA4, HB4, some_empty l, has_empty _ (by rintro i ⟨j, hj, _⟩; omega), hB24⟩
  case round =>
    obtain ⟨k, V, hk, rfl, hbx, hbe, hso, hhas, hb⟩ := hrel
    by_cases hlt : k < on
    · have hoc := HOA.out (by omega)
      obtain ⟨rfl, hoc1⟩ := hoc
      have HOC := Lib.hid hoc1
      clear hoc1
      have hltO : k < O.length := by rw [← HON.out]; omega
      obtain ⟨x, hx⟩ : ∃ x, x = O[k] := ⟨_, rfl⟩
      have co : ∀ W, Below w2.heap.size w2 W → W.cell? ⟨og, ooff + k, none⟩ = some (.int .i64 x) := by
        intro W hW
        rw [(bcell hW).1 _ _ (by have := hB2.size; have := HOC.out.1; omega), (bcell hB2).1 _ _ HOC.out.1, HOC.out.2 k (by simpa using hltO), hx]
        simp [hltO]
      obtain ⟨u, i, hu, hin, hrem, hwn, hwi, hwj, rfl⟩ := idx_facts x n hn1 hn16 (HOV.out x (by rw [hx]; exact List.getElem_mem hltO))
      clear hrem hwi hwj
      have hix : ixOf n (O.getD k 0) = u % n := by
        unfold ixOf
        rw [show O.getD k 0 = x by rw [hx]; simp [List.getD, hltO], hu]
        rfl
      have hi2 : u % n < ps.length := by omega
      obtain ⟨p, hp⟩ : ∃ p, p = ps[u % n] := ⟨_, rfl⟩
      have hcells : ∀ W, Below w2.heap.size w2 W → ∀ j, j < 4 → W.cell? ⟨pg, u % n * 4 + j, none⟩ = (pcells p)[j]? := by
        intro W hW j hj
        rw [World.ownsRow.cellAt (HPS2.out.below hW).1 (u % n * 4 + j) (by rw [hpl]; omega), pcellsL_get ps (u % n) hi2 j hj, hp]
      have hgood : ∀ W, Below w2.heap.size w2 W → GoodP W p := by
        intro W hW
        rw [hp]
        exact own_good (HPS2.out.below hW) hlong HBY.out HPT.out (u % n) hi2
      have hip := HPT.out (u % n) hi2
      rw [← hp] at hip
      have hinn : u % n < nOf l := by rw [← HN.out]; exact hin
      obtain ⟨q1, q2, q3, q4⟩ := put_part hlong hso.out hip hinn
      have hP := put_any p wr w2.heap.size ba ma V hbx.out hb.size (hgood wr hb)
      unfold PutsIn at hP
      rw [q1] at hP
      unfold pval at hP
      have HP := Lib.hid hP
      have HQ := Lib.hid q2
      have hnh : Has (putV V p).1 (fun i => ∃ j, j < k + 1 ∧ ixOf n (O.getD j 0) = i) := by
        refine (has_put (l := l) q3 hhas.out).iff fun i => ?_
        constructor
        · rintro (⟨j, h1, h2⟩ | h)
          · exact ⟨j, by omega, h2⟩
          · exact ⟨k, by omega, by rw [hix, h]⟩
        · rintro ⟨j, h1, h2⟩
          by_cases e : j = k
          · right; rw [← h2, e, hix]
          · exact .inl ⟨j, by omega, h2⟩
      have HNH := Lib.hid hnh
      have c0 : wr.cell? ⟨pg, u % n * 4, none⟩ = some (.int .i64 p.pos) := hcells wr hb 0 (by omega)
      have c1 : wr.cell? ⟨pg, u % n * 4 + 1, none⟩ = some (.int .i64 p.tot) := hcells wr hb 1 (by omega)
      have c2 : wr.cell? ⟨pg, u % n * 4 + 2, none⟩ = some (.int .u32 p.sum) := hcells wr hb 2 (by omega)
      have c3 : wr.cell? ⟨pg, u % n * 4 + 3, none⟩ = some (.slice p.addr p.data.length p.cap) := hcells wr hb 3 (by omega)
      have co1 := co wr hb
      have hlt2 : (k : Int) < (on : Int) := by omega
      have hk0 : (0 : Int) ≤ (k : Int) := by omega
      have hin2 : ((u % n : Nat) : Int) < (n : Int) := by omega
      clear hx hgood hip hp hcells hP q1 q2 q3 q4 co hix hnh hinn
      go_wp2_with fail
      refine HP.out.mono ?_; rintro e w5 ⟨rfl, hbx5, hk5⟩
      have hb5 : Below w2.heap.size w2 w5 := hb.trans (hk5.below hb.size (fun j hj => by have := hbx.out.lob; have := hbx.out.lom; omega))
      have HBX5 := Lib.hid hbx5
      have HBE5 : Hid (BoxAt w5 w2.heap.size bb mb empty) := hbe.out.keep hk5 (by have := HDIS.out; omega) (by have := HDIS.out; omega) hbx.out.notByte
      clear hbx5 hk5
      go_wp2_with fail
      go_roundw
      case rel => exact ⟨k + 1, _, by omega, by go_num, HBX5, HBE5, HQ, HNH, hb5⟩
      case measure => simp [intOf]; omega
    · obtain rfl : on = k := by omega
      obtain ⟨VA, hVA⟩ : ∃ VA, VA = V := ⟨_, rfl⟩
      rw [← hVA] at hbx hso hhas
      have hsoa := hso
      have hhasa := hhas
      clear hso hhas hVA
      go_wp2_with fail
      go_loopw [10] (fun i wq => ∃ (k : Nat) (V : BoxV), k ≤ on ∧ i = .int .i64 ((k : Int) - 1) ∧ Hid (BoxAt wq w2.heap.size ba ma VA) ∧ Hid (BoxAt wq w2.heap.size bb mb V) ∧ Hid (SomeOf l V) ∧ Hid (Has V (fun i => ∃ j, k ≤ j ∧ j < on ∧ ixOf n (O.getD j 0) = i)) ∧ Below w2.heap.size w2 wq) (fun i _ => (intOf i + 1).toNat)
      case atStart => exact ⟨on, _, Nat.le_refl _, rfl, hbx, hbe, some_empty l, has_empty _ (by rintro i ⟨j, h1, h2, _⟩; omega), hb⟩
      case round =>
        obtain ⟨k, V, hk, rfl, hbx, hbe, hso, hhas, hb⟩ := hrel
        by_cases hlt : 0 < k
        · obtain ⟨j, rfl⟩ : ∃ j, k = j + 1 := ⟨k - 1, by omega⟩
          have ej : (((j + 1 : Nat) : Int) - 1) = (j : Int) := by omega
          rw [ej]
          have hoc := HOA.out (by omega)
          obtain ⟨rfl, hoc1⟩ := hoc
          have HOC := Lib.hid hoc1
          clear hoc1
          have hltO : j < O.length := by rw [← HON.out]; omega
          obtain ⟨x, hx⟩ : ∃ x, x = O[j] := ⟨_, rfl⟩
          have co : ∀ W, Below w2.heap.size w2 W → W.cell? ⟨og, ooff + j, none⟩ = some (.int .i64 x) := by
            intro W hW
            rw [(bcell hW).1 _ _ (by have := hB2.size; have := HOC.out.1; omega), (bcell hB2).1 _ _ HOC.out.1, HOC.out.2 j (by simpa using hltO), hx]
            simp [hltO]
          obtain ⟨u, i, hu, hin, hrem, hwn, hwi, hwj, rfl⟩ := idx_facts x n hn1 hn16 (HOV.out x (by rw [hx]; exact List.getElem_mem hltO))
          clear hrem hwi hwj
          have hix : ixOf n (O.getD j 0) = u % n := by
            unfold ixOf
            rw [show O.getD j 0 = x by rw [hx]; simp [List.getD, hltO], hu]
            rfl
          have hi2 : u % n < ps.length := by omega
          obtain ⟨p, hp⟩ : ∃ p, p = ps[u % n] := ⟨_, rfl⟩
          have hcells : ∀ W, Below w2.heap.size w2 W → ∀ j, j < 4 → W.cell? ⟨pg, u % n * 4 + j, none⟩ = (pcells p)[j]? := by
            intro W hW j hj
            rw [World.ownsRow.cellAt (HPS2.out.below hW).1 (u % n * 4 + j) (by rw [hpl]; omega), pcellsL_get ps (u % n) hi2 j hj, hp]
          have hgood : ∀ W, Below w2.heap.size w2 W → GoodP W p := by
            intro W hW
            rw [hp]
            exact own_good (HPS2.out.below hW) hlong HBY.out HPT.out (u % n) hi2
          have hip := HPT.out (u % n) hi2
          rw [← hp] at hip
          have hinn : u % n < nOf l := by rw [← HN.out]; exact hin
          obtain ⟨q1, q2, q3, q4⟩ := put_part hlong hso.out hip hinn
          obtain ⟨r1, r2, r3, r4⟩ := put_part hlong q2 hip hinn
          have hP := put_any p wr w2.heap.size bb mb V hbe.out hb.size (hgood wr hb)
          unfold PutsIn at hP
          rw [q1] at hP
          unfold pval at hP
          have HP := Lib.hid hP
          have hP2 : ∀ W, Below w2.heap.size w2 W → BoxAt W w2.heap.size bb mb (putV V p).1 → Calls Tryd.prog 17 #[.pointer (some ⟨bb, 0, none⟩), pval p] W fun e w' => e = .returned (.int .i64 0) ∧ BoxAt w' w2.heap.size bb mb (putV (putV V p).1 p).1 ∧ Keep (fun k => k = bb ∨ k = mb) W w' := by
            intro W hW hB
            have := put_any p W w2.heap.size bb mb (putV V p).1 hB hW.size (hgood W hW)
            unfold PutsIn at this
            rw [r1] at this
            exact this
          unfold pval at hP2
          have HP2 := Lib.hid hP2
          have HQ := Lib.hid r2
          have hnh : Has (putV (putV V p).1 p).1 (fun i => ∃ k, j ≤ k ∧ k < on ∧ ixOf n (O.getD k 0) = i) := by
            refine (has_put (l := l) r3 (has_put (l := l) q3 hhas.out)).iff fun i => ?_
            constructor
            · rintro ((⟨k, h1, h2, h3⟩ | h) | h)
              · exact ⟨k, by omega, h2, h3⟩
              · exact ⟨j, Nat.le_refl _, by omega, by rw [hix, h]⟩
              · exact ⟨j, Nat.le_refl _, by omega, by rw [hix, h]⟩
            · rintro ⟨k, h1, h2, h3⟩
              by_cases e : k = j
              · right; rw [← h3, e, hix]
              · exact .inl (.inl ⟨k, by omega, h2, h3⟩)
          have HNH := Lib.hid hnh
          have HCE := Lib.hid hcells
          have c0 : wr.cell? ⟨pg, u % n * 4, none⟩ = some (.int .i64 p.pos) := hcells wr hb 0 (by omega)
          have c1 : wr.cell? ⟨pg, u % n * 4 + 1, none⟩ = some (.int .i64 p.tot) := hcells wr hb 1 (by omega)
          have c2 : wr.cell? ⟨pg, u % n * 4 + 2, none⟩ = some (.int .u32 p.sum) := hcells wr hb 2 (by omega)
          have c3 : wr.cell? ⟨pg, u % n * 4 + 3, none⟩ = some (.slice p.addr p.data.length p.cap) := hcells wr hb 3 (by omega)
          have co1 := co wr hb
          have hlt2 : (j : Int) < (on : Int) := by omega
          have hk0 : (0 : Int) ≤ (j : Int) := by omega
          have hin2 : ((u % n : Nat) : Int) < (n : Int) := by omega
          clear hx hgood hip hp hcells hP hP2 q1 q2 q3 q4 r1 r2 r3 r4 co hix hnh hinn ej
          go_wp2_with fail
          refine HP.out.mono ?_; rintro e w5 ⟨rfl, hbx5, hk5⟩
          have hb5 : Below w2.heap.size w2 w5 := hb.trans (hk5.below hb.size (fun j hj => by have := hbe.out.lob; have := hbe.out.lom; omega))
          have HBE5 := Lib.hid hbx5
          have HBX5 : Hid (BoxAt w5 w2.heap.size ba ma VA) := hbx.out.keep hk5 (by have := HDIS.out; omega) (by have := HDIS.out; omega) hbe.out.notByte
          have d0 : w5.cell? ⟨pg, u % n * 4, none⟩ = some (.int .i64 p.pos) := HCE.out w5 hb5 0 (by omega)
          have d1 : w5.cell? ⟨pg, u % n * 4 + 1, none⟩ = some (.int .i64 p.tot) := HCE.out w5 hb5 1 (by omega)
          have d2 : w5.cell? ⟨pg, u % n * 4 + 2, none⟩ = some (.int .u32 p.sum) := HCE.out w5 hb5 2 (by omega)
          have d3 : w5.cell? ⟨pg, u % n * 4 + 3, none⟩ = some (.slice p.addr p.data.length p.cap) := HCE.out w5 hb5 3 (by omega)
          clear hbx5 hk5 c0 c1 c2 c3
          go_wp2_with fail
          refine (HP2.out w5 hb5 HBE5.out).mono ?_; rintro e w6 ⟨rfl, hbx6, hk6⟩
          have hb6 : Below w2.heap.size w2 w6 := hb5.trans (hk6.below hb5.size (fun j hj => by have := hbe.out.lob; have := hbe.out.lom; omega))
          have HBE6 := Lib.hid hbx6
          have HBX6 : Hid (BoxAt w6 w2.heap.size ba ma VA) := HBX5.out.keep hk6 (by have := HDIS.out; omega) (by have := HDIS.out; omega) HBE5.out.notByte
          clear hbx6 hk6
          go_wp2_with fail
          go_roundw
          case rel => exact ⟨j, _, by omega, by go_num, HBX6, HBE6, HQ, HNH, hb6⟩
          case measure => simp [intOf]
        · obtain rfl : k = 0 := by omega
          rw [show (((0 : Nat) : Int) - 1) = -1 from rfl]
          have hsame := same_get hso.out hsoa.out (hhas.out.iff (Q := fun i => ∃ j, j < on ∧ ixOf n (O.getD j 0) = i) (fun i => ⟨fun ⟨j, _, h1, h2⟩ => ⟨j, h1, h2⟩, fun ⟨j, h1, h2⟩ => ⟨j, Nat.zero_le _, h1, h2⟩⟩)) hhasa.out
          have hmiss := same_miss hso.out hsoa.out hsame
          have hda := done_part hlong hsoa.out hbx.out.wf
          have hdb := done_part hlong hso.out hbe.out.wf
          rw [hmiss] at hdb
          have hmn : ∀ e ∈ missV VA, ¬ ∃ j, j < on ∧ ixOf n (O.getD j 0) = e := fun e he => miss_not hhasa.out (cnt_has hlong hsoa.out hhasa.out) e he
          have HDA := Lib.hid hda
          have HDB := Lib.hid hdb
          have HMS := Lib.hid hmiss
          have HMN := Lib.hid hmn
          have hbw : Below w.heap.size w wr := hB2.trans (Below.mono hb hB2.size)
          clear hlt hsame hmiss hda hdb hmn
          have hVD : doneV V = doneV VA := by rw [HDB.out, HDA.out]
          obtain ⟨D, hD⟩ : ∃ D, D = (doneV VA).getD [] := ⟨_, rfl⟩
          obtain ⟨ok, hok⟩ : ∃ b, b = (doneV VA).isSome := ⟨_, rfl⟩
          obtain ⟨dl, hdl⟩ : ∃ n, n = D.length := ⟨_, rfl⟩
          obtain ⟨mv, hmv⟩ : ∃ n, n = (missV VA).length := ⟨_, rfl⟩
          have hcA := done_ok wr _ ba ma VA hbx.out (cut.Tab.below HT.out hbw)
          have hcB : ∀ W, Below wr.heap.size wr W → _ := fun W hW => done_ok W _ bb mb V (hbe.out.below hW) (cut.Tab.below HT.out (below_step hbw hW))
          unfold DoneIs at hcA hcB
          rw [← hD, ← hok, ← hdl] at hcA
          rw [hVD, ← hD, ← hok, ← hdl] at hcB
          have HCA := Lib.hid hcA
          have HCB := Lib.hid hcB
          have HDD := Lib.hid hD
          have HOK := Lib.hid hok
          have HDL := Lib.hid hdl
          have HMV := Lib.hid hmv
          clear hVD hcA hcB hD hok hdl
          go_wp2_with fail
          refine HCA.out.mono ?_; rintro e w5 ⟨va, rfl, hva, hb5⟩
          obtain ⟨xa, xc, rfl, _, hxl, _⟩ := owned_lie hva
          clear hva
          have HXA := Lib.hid hxl
          clear hxl
          go_wp2_with fail
          refine (HCB.out w5 hb5).mono ?_; rintro e w6 ⟨vb, rfl, hvb, hb6⟩
          obtain ⟨ya, yc, rfl, _, hyl, _⟩ := owned_lie hvb
          clear hvb
          have HYB := Lib.hid hyl
          clear hyl
          have hb56 : Below wr.heap.size wr w6 := below_step hb5 hb6
          go_wp2_with fail
          refine (miss_ok w6 _ ba ma VA (hbx.out.below hb56)).mono ?_; rintro e w7 ⟨vm, rfl, hvm, hb7⟩
          unfold IntsAt at hvm
          rw [← hmv] at hvm
          obtain ⟨la, lc, rfl, _, hlc1, hlc2⟩ := own_shape hvm
          have hmvb : mv ≤ 9223372036854775807 := by unfold maxLen at hlc2; omega
          have HVM := Lib.hid hvm
          clear hvm hmv hlc1 hlc2
          have hb67 : Below w5.heap.size w5 w7 := below_step hb6 hb7
          have hbr7 : Below wr.heap.size wr w7 := below_step hb56 hb7
          have hB27 : Below w2.heap.size w2 w7 := below_step hb hbr7
          go_wp2_with fail
          go_loopw [17] (fun i wq => ∃ k : Nat, k ≤ mv ∧ i = .int .i64 k ∧ Below w7.heap.size w7 wq) (fun i _ => mv - (intOf i).toNat)
          case atStart => exact ⟨0, Nat.zero_le _, rfl, Below.refl _ _⟩
          case round =>
            obtain ⟨k, hk, rfl, hb8⟩ := hrel
            by_cases hlt : k < mv
            · have hkm : k < (missV VA).length := by rw [← HMV.out]; exact hlt
              obtain ⟨e, he⟩ : ∃ e, e = (missV VA)[k] := ⟨_, rfl⟩
              have hem := HMN.out e (by rw [he]; exact List.getElem_mem hkm)
              obtain ⟨lg, rfl⟩ : ∃ lg, la = some ⟨lg, 0, none⟩ := by
                obtain ⟨lg, lcap, e1, _⟩ := owned_some HVM.out (by omega)
                simp only [Value.slice.injEq] at e1
                exact ⟨lg, e1.1⟩
              have hlc : ∀ W, Below w7.heap.size w7 W → W.cell? ⟨lg, k, none⟩ = some (.int .i64 e) := by
                intro W hW
                rw [World.ownsRow.cellAt (own_below HVM.out hW) k (by omega), icells_get hkm, he]
              have HLC := Lib.hid hlc
              have HEM := Lib.hid hem
              have hlt2 : (k : Int) < (mv : Int) := by omega
              have hk0 : (0 : Int) ≤ (k : Int) := by omega
              have HLT := Lib.hid hlt
              have HMB := Lib.hid hmvb
              clear hlc hem he hkm
              go_wp2_with fail
              obtain ⟨wo, rfl⟩ : ∃ wo : World, wo = wr := ⟨_, rfl⟩
              go_loopw [18] (fun i wq => ∃ j : Nat, j ≤ on ∧ i = .int .i64 j ∧ Below w7.heap.size w7 wq) (fun i _ => on - (intOf i).toNat)
              case atStart => exact ⟨0, Nat.zero_le _, rfl, hb8⟩
              case round =>
                obtain ⟨j, hj, rfl, hb9⟩ := hrel
                have hb29 : Below w2.heap.size w2 wr := below_step hB27 hb9
                by_cases hltj : j < on
                · have hoc := HOA.out (by omega)
                  obtain ⟨rfl, hoc1⟩ := hoc
                  have HOC := Lib.hid hoc1
                  clear hoc1
                  have hltO : j < O.length := by rw [← HON.out]; omega
                  obtain ⟨x, hx⟩ : ∃ x, x = O[j] := ⟨_, rfl⟩
                  have co : ∀ W, Below w2.heap.size w2 W → W.cell? ⟨og, ooff + j, none⟩ = some (.int .i64 x) := by
                    intro W hW
                    rw [(bcell hW).1 _ _ (by have := hB2.size; have := HOC.out.1; omega), (bcell hB2).1 _ _ HOC.out.1, HOC.out.2 j (by simpa using hltO), hx]
                    simp [hltO]
                  obtain ⟨u, i, hu, hin, hrem, hwn, hwi, hwj, rfl⟩ := idx_facts x n hn1 hn16 (HOV.out x (by rw [hx]; exact List.getElem_mem hltO))
                  clear hrem hwi hwj
                  have hix : ixOf n (O.getD j 0) = u % n := by
                    unfold ixOf
                    rw [show O.getD j 0 = x by rw [hx]; simp [List.getD, hltO], hu]
                    rfl
                  have co1 := co wr hb29
                  have hl1 := HLC.out wr hb9
                  have hne : ¬ ((u % n : Nat) : Int) = (e : Int) := by
                    intro h
                    exact HEM.out ⟨j, hltj, by rw [hix]; omega⟩
                  have hne2 : (((u % n : Nat) : Int) == (e : Int)) = false := by simpa using hne
                  have hj2 : (j : Int) < (on : Int) := by omega
                  have hj0 : (0 : Int) ≤ (j : Int) := by omega
                  clear hx co hix
                  go_wp2_with fail
                  go_quiet (fail)
                  go_wp2_with fail
                  go_roundw
                  case rel => exact ⟨j + 1, by omega, by go_num, below_drewN hb9 _⟩
                  case measure => simp [intOf]; omega
                · have hlt3 := HLT.out
                  have hmb3 := HMB.out
                  go_wp2_with fail
                  go_roundw
                  case rel => exact ⟨k + 1, by omega, by go_num, hb9⟩
                  case measure => simp [intOf]; omega
            · have hkm : k = mv := by omega
              have hb2r : Below w2.heap.size w2 wr := below_step hB27 hb8
              have hbwr : Below w.heap.size w wr := hB2.trans (Below.mono hb2r hB2.size)
              have HXW := Lib.hid (HXA.out.below (below_step hb67 hb8))
              have HYW := Lib.hid (HYB.out.below (below_step hb7 hb8))
              have hpm : Lie wr la (icells (missV VA)) := by
                obtain ⟨ao, cap, e1, e2, e3, e4⟩ := owned_lie (own_below HVM.out hb8)
                simp only [Value.slice.injEq, true_and] at e1
                rw [e1.1]
                exact e3
              have HPM := Lib.hid hpm
              have hmB := miss_ok wr _ bb mb V (hbe.out.below (below_step hbr7 hb8))
              unfold MissIs IntsAt at hmB
              rw [HMS.out, ← HMV.out] at hmB
              have HMB2 := Lib.hid hmB
              clear hmB hpm hlt
              have hD2 : Hid (missV VA = [] ∧ mv = 0 ∧ ok = true ∨ ¬ missV VA = [] ∧ ¬ mv = 0 ∧ ok = false) := by
                have h1 := HDA.out
                by_cases hm : missV VA = []
                · rw [if_pos hm] at h1
                  exact .inl ⟨hm, by rw [HMV.out, hm]; rfl, by rw [HOK.out, h1]; rfl⟩
                · rw [if_neg hm] at h1
                  exact .inr ⟨hm, by rw [HMV.out]; intro h; exact hm (List.length_eq_zero_iff.1 h), by rw [HOK.out, h1]; rfl⟩
              go_wp2_with fail
              refine HMB2.out.mono ?_; rintro e w9 ⟨vm2, rfl, hvm2, hb9⟩
              obtain ⟨l2, c2, rfl, _, _, _⟩ := own_shape hvm2
              have hP : Calls Tryd.prog 22 #[.slice la mv lc, .slice l2 mv c2] w9 fun e w' => e = .returned (.bool true) ∧ Below w9.heap.size w9 w' := by
                have hs : sameB (missV VA) (missV VA) = true := by simp [sameB]
                obtain ⟨ao, cap, e1, e2, e3, e4⟩ := owned_lie hvm2
                simp only [Value.slice.injEq, true_and] at e1
                have := plainI_any (missV VA) (missV VA) la l2 lc c2 w9 (by rw [← HMV.out]; exact hmvb) (HPM.out.below hb9) (by rw [e1.1]; exact e3)
                rw [hs, ← HMV.out] at this
                exact this
              have HP := Lib.hid hP
              clear hP hvm2
              go_wp2_with fail
              refine HP.out.mono ?_; rintro e w10 ⟨rfl, hb10⟩
              have hb910 : Below wr.heap.size wr w10 := below_step hb9 hb10
              have hP : Calls Tryd.prog 21 #[.slice xa dl xc, .slice ya dl yc] w10 fun e w' => e = .returned (.bool true) ∧ Below w10.heap.size w10 w' := by
                have hs : sameB D D = true := by simp [sameB]
                have := bytes_any D D xa ya xc yc w10 (by rw [HDD.out, HDA.out]; split <;> simp <;> omega) (HXW.out.below hb910) (HYW.out.below hb910)
                rw [hs, ← HDL.out] at this
                exact this
              have HP := Lib.hid hP
              clear hP
              go_wp2_with fail
              refine HP.out.mono ?_; rintro e w11 ⟨rfl, hb11⟩
              have hbe11 : Below w.heap.size w w11 := below_step (below_step hbwr hb910) hb11
              rcases hD2.out with ⟨_, h2, h3⟩ | ⟨_, h2, h3⟩
              · subst h2 h3
                go_wp2_with fail
                go_ret
                exact ⟨rfl, hbe11⟩
              · subst h3
                have hmz : ((mv : Int) == 0) = false := by simp; omega
                go_wp2_with fail
                go_ret
                exact ⟨rfl, hbe11⟩
theorem walk_long (l : List Nat) (a : Option Addr) (cap : Nat) (v1 : Value) (w : World) (hl : l.length ≤ 140737488351232) (ht : Tab w) (hlong : 8192 < l.length) :
    Calls Tryd.prog 6 #[.slice a l.length cap, v1] w fun e w' => e = .returned (.bool true) ∧ Below w.heap.size w w' := by
  have hC := cut_long l a cap w hlong (by omega)
  have HT := Lib.hid ht
  clear ht
  have h2 : (8192 : Int) < (l.length : Int) := by omega
  go_enter Tryd.func6, Tryd.ntmps6
  go_wp2_with fail
  refine hC.mono ?_; rintro e w1 ⟨rfl, rfl⟩
  go_wp2_with fail
  refine (awake_ok _ HT.out).mono ?_; rintro e w2 ⟨rfl, hb2⟩
  go_wp2_with fail
  refine (awake_ok _ (cut.Tab.below HT.out hb2)).mono ?_; rintro e w3 ⟨rfl, hb3⟩
  go_wp2_with fail
  go_ret
  exact ⟨rfl, below_step hb2 hb3⟩

theorem lawWalk {H : Type} (enc : TypeId × Value → H) (W : World) (base : Nat) (args : Array Value) (ds : List (DataW H)) (p : List MemPlace)
    (hval : ∀ (j : Nat) t v, Tryd.f6.params[j]? = some t → args[j]? = some v → Value.okWide Tryd.prog W .any base t v)
    (hA : DataW.TrodAll enc Tryd.prog W 0 (fun _ => true) true Tryd.f6.params.toList args.toList ds p)
    (hsz : (DataW.weightsEach Tryd.prog Tryd.f6.params.toList ds).all (· ≤ reachBytes) = true) (ht : Tab W) :
    Calls Tryd.prog 6 args W fun e w' => e = .returned (.bool true) ∧ Below W.heap.size W w' := by
  rw [Tryd.params6] at hA hval hsz
  obtain ⟨v0, vs0, d0, ds0, p0, q0, hargs, rfl, rfl, h0, r0⟩ := trodAll_cons hA
  obtain ⟨v1, vs1, d1, ds1, p1, q1, rfl, rfl, rfl, h1, r1⟩ := trodAll_cons r0
  obtain ⟨rfl, rfl, rfl⟩ := trodAll_nil r1
  obtain rfl : args = #[v0, v1] := by cases args; simp_all
  obtain ⟨a, l, cap, rfl, hlc, hcm, hn, hat, hwf, hd⟩ := open_slice_int Tryd.underlying22 Tryd.underlying5 (by kernel_rfl) (hval 0 22 v0 rfl rfl) h0
  obtain ⟨oa, O, ocap, rfl, hol, hoc, _, hoat, howf, _⟩ := open_slice_int Tryd.underlying43 Tryd.underlying3 (by kernel_rfl) (hval 1 43 v1 rfl rfl) h1
  have hlen : l.length ≤ 140737488351232 := by
    rcases hd with ⟨_, rfl⟩ | ⟨sp, rfl, hsp⟩
    · simp
    · have := sized_slice hsz (j := 0) rfl rfl Tryd.underlying22
      have e1 : Tryd.prog.bytesOf 5 = 1 := by kernel_rfl
      rw [e1] at this
      simp only [List.length_map, reachBytes] at this
      omega
  obtain ⟨m, rfl, hm⟩ := nat_list l (byte_wf hwf)
  rw [bcells_of] at hat
  simp only [List.length_map] at *
  have hov : ∀ x ∈ O, -9223372036854775808 ≤ x ∧ x ≤ 9223372036854775807 := by
    intro x hx
    have := howf x hx
    simp [Lit.wf, IntKind.min, IntKind.max, IntKind.signed, IntKind.bits] at this
    omega
  have e2 : ocap ≤ 9223372036854775807 := by unfold maxLen at hoc; omega
  have e3 : cap ≤ 9223372036854775807 := by unfold maxLen at hcm; omega
  by_cases hlong : m.length ≤ 8192
  · exact walk_short m a cap O oa ocap W hlen hlc e3 hn hm ht hat hol e2 hoat hov hlong
  · exact walk_long m a cap _ W hlen ht (by omega)

theorem laid_met (os : Os) : laidMet Tryd.prog Rows.chunkOrderRow.laid ((laidWorld os).forCall (fun _ _ => 0) ⟨#[], #[.slice none 0 0, .slice none 0 0], []⟩).memory :=
  laidMet_of_run' 8 (by kernel_rfl) (by kernel_rfl)
theorem reads (os : Os) {H : Type} (enc : TypeId × Value → H) : ∃ places, DataW.whole enc Tryd.prog ((laidWorld os).forCall (fun _ _ => 0) ⟨#[], #[.slice none 0 0, .slice none 0 0], []⟩).memory Tryd.f6.params.toList Rows.chunkOrderSpec.vars false (#[.slice none 0 0, .slice none 0 0] : Array Value).toList 8 = some ([.nil, .nil], [], places) :=
  ⟨[], by kernel_rfl⟩

set_option maxRecDepth 100000 in
theorem lifted (os : Os) (started : os.Started) (H : Type) (enc : TypeId × Value → H) (F : Stop.Interp) :
    ReturnsInHanded {} Tryd.checked os 6 .any ((OpenSpec.ofChange Rows.chunkOrderSpec).preRow enc Tryd.prog Tryd.f6 Rows.chunkOrderRow.domain false Rows.chunkOrderRow.laid) (((OpenSpec.ofChange Rows.chunkOrderSpec).at F).post enc Tryd.prog Tryd.f6 false true false false) := by
  obtain ⟨places, hx⟩ := reads os enc
  refine returnsInHanded_of_row (C := Tryd.checked) (s := (OpenSpec.ofChange Rows.chunkOrderSpec)) own started (by kernel_rfl) Tryd.func6
    (witness_row_at (enc := enc) (C := Tryd.checked) false (laidWorld os) #[.slice none 0 0, .slice none 0 0] rfl (by kernel_rfl) (by kernel_rfl) (by kernel_rfl)
      (OpenSpec.preRow_of_cond 8 hx (by kernel_rfl) (fun k hk => by cases hk) (by kernel_rfl) (laid_met os))) ?_
  intro W base args ds gs before hval hW hcnd hk hsz hL _ _
  exact law_post_at (C := Tryd.checked) laidOut (fun ds h => by match ds, h with | [_, _], _ => rfl) 4 rfl Tryd.underlying4 rfl (by kernel_rfl) hW hsz
    (fun p hA hs => lawWalk enc W base args ds p hval hA hs (tab hL))

theorem said : Rows.ChunkOrderSaid :=
  OpenClaim.holds_of_cond 6 Tryd.f6 rfl rfl rfl rfl rfl rfl rfl ⟨rfl, rfl, rfl, rfl, rfl⟩ rfl rfl rfl rfl rfl (by kernel_rfl) Tryd.func6 (by kernel_rfl)
    (of_decide_eq_true (by kernel_rfl)) (by unfold Func.isWrapper; first | (rw [if_pos (by decide +kernel)]; kernel_rfl) | (rw [if_neg (by decide +kernel)]; exact ⟨rfl, rfl⟩))
    (fun os started H enc _ F => by rw [OpenClaim.pre_eq_preRow]; exact lifted os started H enc F)

theorem plain (f : FuncId) (fn : Func) (hf : Tryd.pinned.checked.prog.funcNamed "purse/purselaw12.ChunkOrder" = some f) (hfn : Tryd.pinned.checked.prog.funcs[f]? = some fn) :
    true = Tryd.pinned.checked.prog.looks [] ∧ ∀ (j : Nat) t, fn.params[j]? = some t → Tryd.pinned.checked.prog.wantsStandIn t = false := by
  obtain rfl : f = 6 := Option.some.inj ((show Tryd.prog.funcNamed "purse/purselaw12.ChunkOrder" = some 6 by kernel_rfl).symm.trans hf) |>.symm
  obtain rfl : fn = Tryd.f6 := (Option.some.inj (Tryd.func6.symm.trans hfn)).symm
  refine ⟨by kernel_rfl, ?_⟩
  have h : (Tryd.f6.params.toList.all fun t => ! Tryd.prog.wantsStandIn t) = true := by kernel_rfl
  intro j t ht
  have := List.all_eq_true.1 h t (by simpa using Array.mem_of_getElem? ht)
  have h2 : Tryd.prog.wantsStandIn t = false := by simpa using this
  exact h2

theorem card : Rows.ChunkOrderCardSaid :=
  Claim7.holds_tied_plain_at .later [] _ _ _ _ said (fun _ h => by cases h) (by kernel_rfl) (fun _ h => by cases h) chunkOrder_row_tie rfl ⟨rfl, rfl⟩ (by kernel_rfl) rfl plain (by kernel_rfl)
#print axioms card
end Go.Proofs.YtgpkenbefolegaaDoor.chunkOrder
