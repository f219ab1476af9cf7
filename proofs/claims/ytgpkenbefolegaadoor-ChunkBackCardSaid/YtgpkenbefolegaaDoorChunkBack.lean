/-
  The statement ChunkBack: the pieces of some bytes, in any order, some of them twice, are these bytes; and not ahead of the last one.
-/
import Derived.Test.YtgpkenbefolegaaDoorPieces
import Derived.Test.YtgpkenbefolegaaDoorAwake
import Derived.Test.YtgpkenbefolegaaDoorBackPlain
import Derived.Test.YtgpkenbefolegaaDoorCutAll
import Derived.Test.YtgpkenbefolegaaDoorRows
import Derived.Test.YtgpkenbefolegaaDoorCards
import Derived.Test.YtgpkenbefolegaaDoorTie
namespace Go.Proofs.YtgpkenbefolegaaDoor.chunkBack
open Go.ChangeShapes Go.WideShapes Go.ChangeAt Go.RowKit
open Go.Proofs.YtgpkenbefolegaaDoor.kit Go.Proofs.YtgpkenbefolegaaDoor.mapkit Go.Proofs.YtgpkenbefolegaaDoor.byt Go.Proofs.YtgpkenbefolegaaDoor.sum Go.Proofs.YtgpkenbefolegaaDoor.cut Go.Proofs.YtgpkenbefolegaaDoor.laid Go.Proofs.YtgpkenbefolegaaDoor.box
set_option linter.unusedVariables false
set_option linter.unusedSimpArgs false
set_option maxHeartbeats 2000000
set_option maxRecDepth 100000

/-- A piece of a list of the call's own is good. -/
theorem own_good {w : World} {base : Nat} {v : Value} {ps : List PieceV} {l : List Nat} (h : PiecesAt w base v ps) (hl : l.length ≤ 8192) (hby : Byt l) (hp : ∀ i (h : i < ps.length), IsPart l i ps[i]) (i : Nat) (hi : i < ps.length) : GoodP w ps[i] := by
  have hd := h.2 ps[i] (List.getElem_mem hi)
  obtain ⟨h1, h2, h3, h4⟩ := hp i hi
  obtain ⟨a, c, e, e1, e2, e3⟩ := own_shape hd
  simp only [Value.slice.injEq, true_and] at e
  obtain ⟨ea, ec⟩ := e
  rw [← ea, ← ec] at e1
  rw [← ec] at e2 e3
  have hn := nOf_le16 hl
  refine ⟨(data_lie hd).2, ?_, ?_, e1, e2, e3, by rw [h2]; omega⟩
  · rw [h4]
    intro x hx
    exact hby x (List.mem_of_mem_drop (List.mem_of_mem_take hx))
  · rw [h3]; simp only [sumL]; omega

theorem idx_facts (x : Int) (n : Nat) (hn : 0 < n) (hn2 : n ≤ 16) (hx : -9223372036854775808 ≤ x ∧ x ≤ 9223372036854775807) :
    ∃ u i : Nat, IntKind.u64.wrap x = (u : Int) ∧ i < n ∧ (u : Int).tmod (n : Int) = (i : Int) ∧ IntKind.u64.wrap (n : Int) = n ∧ IntKind.u64.wrap (i : Int) = i ∧ IntKind.i64.wrap (i : Int) = i ∧ i = u % n := by
  obtain ⟨u, hu⟩ : ∃ u : Nat, IntKind.u64.wrap x = (u : Int) := ⟨(IntKind.u64.wrap x).toNat, by rw [IntKind.wrap_u64]; omega⟩
  refine ⟨u, u % n, hu, Nat.mod_lt _ hn, by rw [Int.ofNat_tmod], ?_, ?_, ?_, rfl⟩
  · rw [IntKind.wrap_u64]; omega
  · have := Nat.mod_lt u hn
    rw [IntKind.wrap_u64]; omega
  · have := Nat.mod_lt u hn
    exact IntWalk.i64_in _ (by omega)


theorem walk_pos (l : List Nat) (a : Option Addr) (cap : Nat) (O : List Int) (oa : Option Addr) (ocap : Nat) (w : World) (hl : l.length ≤ 140737488351232) (hlc : l.length ≤ cap) (hcm : cap ≤ 9223372036854775807) (hn : a = none → l.length = 0 ∧ cap = 0) (hby : Byt l) (ht : Tab w) (hat : Lie w a (bcells l))
    (hol : O.length ≤ ocap) (hoc : ocap ≤ 9223372036854775807) (hoa : Lie w oa (O.map (Value.int .i64))) (hov : ∀ x ∈ O, -9223372036854775808 ≤ x ∧ x ≤ 9223372036854775807) (hlong : l.length ≤ 8192) (hO : 0 < O.length) :
    Calls Tryd.prog 5 #[.slice a l.length cap, .slice oa O.length ocap] w fun e w' => e = .returned (.bool true) ∧ Below w.heap.size w w' := by
  have HAT := Lib.hid hat
  have HBY := Lib.hid hby
  have HT := Lib.hid ht
  have HOA := Lib.hid hoa
  have HOV := Lib.hid hov
  obtain ⟨on, hon⟩ : ∃ n, n = O.length := ⟨_, rfl⟩
  rw [← hon] at hol ⊢
  have HON := Lib.hid hon
  rw [← hon] at hO
  have hC := cut_all l a cap w hl hlc hcm hn hby ht hat
  have HC := Lib.hid hC
  clear hat hby ht hn hoa hov hC hon
  have hC2 := HC.out
  rw [show codeOf l = 0 by rw [codeOf, if_pos hlong], show nnOf l = nOf l by rw [nnOf, if_pos hlong]] at hC2
  have HC2 := Lib.hid hC2
  have hn16 := nOf_le16 hlong
  have hn1 := nOf_pos l
  obtain ⟨n, hnn⟩ : ∃ n, n = nOf l := ⟨_, rfl⟩
  rw [← hnn] at hn16 hn1
  have HN := Lib.hid hnn
  clear hC2 hnn
  go_enter Tryd.func5, Tryd.ntmps5
  go_wp2_with fail
  refine HC2.out.mono ?_; rintro e w1 ⟨v, ps, rfl, hps, hpl, hpart, hb1⟩
  have HPS := Lib.hid hps
  have HPT := Lib.hid hpart
  rw [← HN.out] at hpl
  obtain ⟨pa, pc, rfl, hpn, hpc, hpcm⟩ := own_shape hps.1
  clear hps hpart
  go_wp2_with fail
  refine (awake_ok _ (cut.Tab.below HT.out hb1)).mono ?_; rintro e w2 ⟨rfl, hb2⟩
  have hB2 : Below w.heap.size w w2 := below_step hb1 hb2
  go_wp2_with fail
  refine (new_ok _).mono ?_; rintro e w3 ⟨b, m, rfl, hbox, hb3⟩
  have hB3 : Below w.heap.size w w3 := below_step hB2 hb3
  have HBX := Lib.hid hbox
  clear hbox
  have hnz : ¬ (n : Int) = 0 := by omega
  have hnz2 : ((n : Int) == 0) = false := by simp; omega
  go_wp2_with fail
  go_loopw [8] (fun i wr => ∃ (k : Nat) (V : BoxV), k ≤ on ∧ i = .int .i64 k ∧ Hid (BoxAt wr w2.heap.size b m V) ∧ Hid (SomeOf l V) ∧ (0 < k → 0 < V.cnt) ∧ Below w2.heap.size w2 wr) (fun i _ => on - (intOf i).toNat)
  case atStart => exact ⟨0, _, Nat.zero_le _, rfl, HBX, some_empty l, by omega, hb3⟩
  case round =>
    obtain ⟨k, V, hk, rfl, hbx, hso, hkc, hb⟩ := hrel
    by_cases hlt : k < on
    · have hltO : k < O.length := by rw [← HON.out]; exact hlt
      obtain ⟨og, ooff, rfl, hog, hoc⟩ : ∃ b off, oa = some ⟨b, off, none⟩ ∧ b < w.heap.size ∧ ∀ i, i < (O.map (Value.int .i64)).length → w.cell? ⟨b, off + i, none⟩ = (O.map (Value.int .i64))[i]? := by
        rcases HOA.out with h | h
        · have := List.map_eq_nil_iff.1 h; rw [this] at hltO; simp at hltO
        · exact h
      obtain ⟨x, hx⟩ : ∃ x, x = O[k] := ⟨_, rfl⟩
      have co : wr.cell? ⟨og, ooff + k, none⟩ = some (.int .i64 x) := by
        rw [(bcell hb).1 _ _ (by have := hB2.size; omega), (bcell hB2).1 _ _ hog, hoc k (by simpa using hltO), hx]
        simp [hltO]
      obtain ⟨u, i, hu, hin, hrem, hwn, hwi, hwj, rfl⟩ := idx_facts x n hn1 hn16 (HOV.out x (by rw [hx]; exact List.getElem_mem hltO))
      clear hrem hwi hwj
      have hi2 : u % n < ps.length := by omega
      obtain ⟨p, hp⟩ : ∃ p, p = ps[u % n] := ⟨_, rfl⟩
      have hb1r : Below w1.heap.size w1 wr := below_step hb2 hb
      have hPr := HPS.out.below hb1r
      have hgood := own_good hPr hlong HBY.out HPT.out (u % n) hi2
      have hip := HPT.out (u % n) hi2
      rw [← hp] at hgood hip
      obtain ⟨pg, rfl⟩ : ∃ pg, pa = some ⟨pg, 0, none⟩ := by
        obtain ⟨pg, pcap, e1, _⟩ := owned_some hPr.1 (by omega)
        simp only [Value.slice.injEq] at e1
        exact ⟨pg, e1.1⟩
      have hcells : ∀ j, j < 4 → wr.cell? ⟨pg, u % n * 4 + j, none⟩ = (pcells p)[j]? := by
        intro j hj
        rw [World.ownsRow.cellAt hPr.1 (u % n * 4 + j) (by rw [hpl]; omega), pcellsL_get ps (u % n) hi2 j hj, hp]
      have c0 : wr.cell? ⟨pg, u % n * 4, none⟩ = some (.int .i64 p.pos) := hcells 0 (by omega)
      have c1 : wr.cell? ⟨pg, u % n * 4 + 1, none⟩ = some (.int .i64 p.tot) := hcells 1 (by omega)
      have c2 : wr.cell? ⟨pg, u % n * 4 + 2, none⟩ = some (.int .u32 p.sum) := hcells 2 (by omega)
      have c3 : wr.cell? ⟨pg, u % n * 4 + 3, none⟩ = some (.slice p.addr p.data.length p.cap) := hcells 3 (by omega)
      obtain ⟨q1, q2, q3, q4⟩ := put_part hlong hso.out hip (by rw [← HN.out]; exact hin)
      have hP := put_any p wr w2.heap.size b m V hbx.out hb.size hgood
      unfold PutsIn at hP
      rw [q1] at hP
      unfold pval at hP
      have HP := Lib.hid hP
      have HQ := Lib.hid q2
      have HQ4 := Lib.hid q4
      have hlt2 : (k : Int) < (on : Int) := by omega
      have hk0 : (0 : Int) ≤ (k : Int) := by omega
      have hi0 : (0 : Int) ≤ ((u % n : Nat) : Int) := by omega
      have hin2 : ((u % n : Nat) : Int) < (n : Int) := by omega
      clear hoc hx hPr hgood hip hp hcells hP q1 q2 q3 q4
      go_wp2_with fail
      refine HP.out.mono ?_; rintro e w4 ⟨rfl, hbx4, hk4⟩
      have hb4 : Below w2.heap.size w2 w4 := hb.trans (hk4.below hb.size (fun j hj => by have := hbx.out.lob; have := hbx.out.lom; omega))
      have HB4 := Lib.hid hbx4
      clear hbx4 hk4
      go_wp2_with fail
      go_roundw
      case rel => exact ⟨k + 1, _, by omega, by go_num, HB4, HQ, fun _ => HQ4.out, hb4⟩
      case measure => simp [intOf]; omega
    · have hkO : on = k := by omega
      subst hkO
      have hvc0 : 0 < on → 0 < V.cnt := fun h => hkc h
      clear hkc hlt
      go_wp2_with fail
      go_loopw [9] (fun i wq => ∃ (k : Nat) (V : BoxV), k ≤ n ∧ i = .int .i64 k ∧ Hid (BoxAt wq w2.heap.size b m V) ∧ Hid (SomeOf l V) ∧ (0 < k ∨ 0 < on → 0 < V.cnt) ∧ Hid (∀ i, i < k → V.get i ≠ none) ∧ Below w2.heap.size w2 wq) (fun i _ => n - (intOf i).toNat)
      case atStart => exact ⟨0, V, Nat.zero_le _, rfl, hbx, hso, fun h => by rcases h with h | h; omega; exact hvc0 h, fun i hi => absurd hi (by omega), hb⟩
      case round =>
        obtain ⟨k, V, hk, rfl, hbx, hso, hkc, hall, hb⟩ := hrel
        have hdone := done_part hlong hso.out hbx.out.wf
        have HDN := Lib.hid hdone
        clear hdone
        have hbr : Below w.heap.size w wr := hB2.trans (Below.mono hb hB2.size)
        have hTr := cut.Tab.below HT.out hbr
        have HTR := Lib.hid hTr
        clear hTr
        by_cases hlt : k < n
        · have hi2 : k < ps.length := by omega
          obtain ⟨p, hp⟩ : ∃ p, p = ps[k] := ⟨_, rfl⟩
          have hb1r : Below w1.heap.size w1 wr := below_step hb2 hb
          have hPr := HPS.out.below hb1r
          have hgood := own_good hPr hlong HBY.out HPT.out k hi2
          have hip := HPT.out k hi2
          rw [← hp] at hgood hip
          obtain ⟨pg, rfl⟩ : ∃ pg, pa = some ⟨pg, 0, none⟩ := by
            obtain ⟨pg, pcap, e1, _⟩ := owned_some hPr.1 (by omega)
            simp only [Value.slice.injEq] at e1
            exact ⟨pg, e1.1⟩
          have hcells : ∀ W, Below wr.heap.size wr W → ∀ j, j < 4 → W.cell? ⟨pg, k * 4 + j, none⟩ = (pcells p)[j]? := by
            intro W hW j hj
            rw [World.ownsRow.cellAt (hPr.below hW).1 (k * 4 + j) (by rw [hpl]; omega), pcellsL_get ps k hi2 j hj, hp]
          obtain ⟨q1, q2, q3, q4⟩ := put_part hlong hso.out hip (by rw [← HN.out]; exact hlt)
          have hP : ∀ W, Below wr.heap.size wr W → Calls Tryd.prog 17 #[.pointer (some ⟨b, 0, none⟩), .agg #[.int .i64 p.pos, .int .i64 p.tot, .int .u32 p.sum, .slice p.addr p.data.length p.cap]] W fun e w' => e = .returned (.int .i64 0) ∧ BoxAt w' w2.heap.size b m (putV V p).1 ∧ Below w2.heap.size w2 w' := by
            intro W hW
            have hbW := hb.trans (hW.mono hb.size)
            have hBW := hbx.out.below hW
            refine (put_any p W w2.heap.size b m V hBW hbW.size (hgood.below hW)).mono ?_
            rintro e w' ⟨rfl, h1, h2⟩
            exact ⟨by rw [q1], h1, hbW.trans (h2.below hbW.size (fun j hj => by have := hBW.lob; have := hBW.lom; omega))⟩
          have hml : 0 < V.cnt → (missV (putV V p).1).length ≤ (missV V).length := fun h => miss_put hlong hso.out hip (by rw [← HN.out]; exact hlt) h
          have hall2 : ∀ i, i < k + 1 → (putV V p).1.get i ≠ none := by
            intro i hi
            rw [q3]
            split
            · simp
            · exact hall.out i (by omega)
          have HP := Lib.hid hP
          have HQ := Lib.hid q2
          have HQ4 := Lib.hid q4
          have HCE := Lib.hid hcells
          have HML := Lib.hid hml
          have HALL := Lib.hid hall2
          have hlt2 : (k : Int) < (n : Int) := by omega
          have hk0 : (0 : Int) ≤ (k : Int) := by omega
          clear hPr hgood hip hp hcells hP q1 q2 q3 q4 hml hall2
          go_wp2_with fail
          refine (miss_ok wr _ b m V hbx.out).mono ?_; rintro e w4 ⟨vm, rfl, hvm, hb4⟩
          obtain ⟨ma, mc, rfl, _⟩ := own_shape hvm
          clear hvm
          obtain ⟨mv, hmv⟩ : ∃ mv, mv = (missV V).length := ⟨_, rfl⟩
          rw [← hmv]
          go_wp2_with fail
          refine (done_ok w4 _ b m V (hbx.out.below hb4) (cut.Tab.below HTR.out hb4)).mono ?_; rintro e w5 ⟨vx, rfl, hvx, hb5⟩
          have hb45 : Below wr.heap.size wr w5 := below_step hb4 hb5
          obtain ⟨xa, xc, rfl, _, hxl, _⟩ := owned_lie hvx
          clear hvx
          rw [HDN.out] at hxl ⊢
          by_cases hm : missV V = []
          · rw [if_pos hm] at hxl ⊢
            have hmv0 : mv = 0 := by rw [hmv, hm]; rfl
            subst hmv0
            clear hmv
            go_wp2_with fail
            refine (bytes_any l l _ _ _ _ _ (by omega) hxl (HAT.out.below (below_step hbr hb45))).mono ?_; rintro e w6 ⟨rfl, hb6⟩
            have hz : Below wr.heap.size wr w6 := below_step hb45 hb6
            have hsl : sameB l l = true := by simp [sameB]
            rw [hsl]
            have c0 : w6.cell? ⟨pg, k * 4, none⟩ = some (.int .i64 p.pos) := HCE.out _ hz 0 (by omega)
            have c1 : w6.cell? ⟨pg, k * 4 + 1, none⟩ = some (.int .i64 p.tot) := HCE.out _ hz 1 (by omega)
            have c2 : w6.cell? ⟨pg, k * 4 + 2, none⟩ = some (.int .u32 p.sum) := HCE.out _ hz 2 (by omega)
            have c3 : w6.cell? ⟨pg, k * 4 + 3, none⟩ = some (.slice p.addr p.data.length p.cap) := HCE.out _ hz 3 (by omega)
            clear hxl
            go_wp2_with fail
            refine (HP.out _ hz).mono ?_; rintro e w7 ⟨rfl, hbx7, hb7⟩
            have HB7 := Lib.hid hbx7
            clear hbx7 c0 c1 c2 c3
            by_cases hg : 0 < k ∨ 0 < on
            · have hV0 := hkc hg
              have hgle := HML.out hV0
              by_cases hk1 : 0 < k
              · have hk1' : (0 : Int) < (k : Int) := by omega
                go_wp2_with fail
                refine (miss_ok w7 _ b m _ HB7.out).mono ?_; rintro e w8 ⟨vm8, rfl, hvm8, hb8⟩
                obtain ⟨ma8, mc8, rfl, _⟩ := own_shape hvm8
                clear hvm8
                obtain ⟨mv8, hmv8⟩ : ∃ mv8, mv8 = (missV (putV V p).1).length := ⟨_, rfl⟩
                rw [← hmv8] at hgle ⊢
                obtain rfl : mv8 = 0 := by rw [hm] at hgle; simpa using hgle
                clear hmv8
                have hb78 : Below w2.heap.size w2 w8 := below_step hb7 hb8
                go_wp2_with fail
                go_roundw
                case rel => exact ⟨k + 1, _, by omega, by go_num, HB7.out.below hb8, HQ, fun _ => HQ4.out, HALL, hb78⟩
                case measure => simp [intOf]; omega
              · have ho1 : (0 : Int) < (on : Int) := by omega
                have ho1n : 0 < on := by omega
                obtain rfl : k = 0 := by omega
                clear hg
                go_wp2_with fail
                refine (miss_ok w7 _ b m _ HB7.out).mono ?_; rintro e w8 ⟨vm8, rfl, hvm8, hb8⟩
                obtain ⟨ma8, mc8, rfl, _⟩ := own_shape hvm8
                clear hvm8
                obtain ⟨mv8, hmv8⟩ : ∃ mv8, mv8 = (missV (putV V p).1).length := ⟨_, rfl⟩
                rw [← hmv8] at hgle ⊢
                obtain rfl : mv8 = 0 := by rw [hm] at hgle; simpa using hgle
                clear hmv8
                have hb78 : Below w2.heap.size w2 w8 := below_step hb7 hb8
                go_wp2_with fail
                go_roundw
                case rel => exact ⟨0 + 1, _, by omega, by go_num, HB7.out.below hb8, HQ, fun _ => HQ4.out, HALL, hb78⟩
                case measure => simp [intOf]; omega
            · exact absurd (Or.inr hO) hg
          · rw [if_neg hm] at hxl ⊢
            have hmv1 : ¬ mv = 0 := by rw [hmv]; intro h; exact hm (List.length_eq_zero_iff.1 h)
            have hmv2 : ((mv : Int) == 0) = false := by simp; omega
            have hz := hb45
            have c0 : w5.cell? ⟨pg, k * 4, none⟩ = some (.int .i64 p.pos) := HCE.out _ hz 0 (by omega)
            have c1 : w5.cell? ⟨pg, k * 4 + 1, none⟩ = some (.int .i64 p.tot) := HCE.out _ hz 1 (by omega)
            have c2 : w5.cell? ⟨pg, k * 4 + 2, none⟩ = some (.int .u32 p.sum) := HCE.out _ hz 2 (by omega)
            have c3 : w5.cell? ⟨pg, k * 4 + 3, none⟩ = some (.slice p.addr p.data.length p.cap) := HCE.out _ hz 3 (by omega)
            clear hxl
            go_wp2_with fail
            refine (HP.out _ hz).mono ?_; rintro e w7 ⟨rfl, hbx7, hb7⟩
            have HB7 := Lib.hid hbx7
            clear hbx7 c0 c1 c2 c3
            by_cases hg : 0 < k ∨ 0 < on
            · have hV0 := hkc hg
              have hgle := HML.out hV0
              by_cases hk1 : 0 < k
              · have hk1' : (0 : Int) < (k : Int) := by omega
                go_wp2_with fail
                refine (miss_ok w7 _ b m _ HB7.out).mono ?_; rintro e w8 ⟨vm8, rfl, hvm8, hb8⟩
                obtain ⟨ma8, mc8, rfl, _⟩ := own_shape hvm8
                clear hvm8
                obtain ⟨mv8, hmv8⟩ : ∃ mv8, mv8 = (missV (putV V p).1).length := ⟨_, rfl⟩
                rw [← hmv8] at hgle ⊢
                have hle2 : ¬ (mv : Int) < (mv8 : Int) := by rw [← hmv] at hgle; omega
                clear hmv8
                have hb78 : Below w2.heap.size w2 w8 := below_step hb7 hb8
                go_wp2_with fail
                go_roundw
                case rel => exact ⟨k + 1, _, by omega, by go_num, HB7.out.below hb8, HQ, fun _ => HQ4.out, HALL, hb78⟩
                case measure => simp [intOf]; omega
              · have ho1 : (0 : Int) < (on : Int) := by omega
                have ho1n : 0 < on := by omega
                obtain rfl : k = 0 := by omega
                clear hg
                go_wp2_with fail
                refine (miss_ok w7 _ b m _ HB7.out).mono ?_; rintro e w8 ⟨vm8, rfl, hvm8, hb8⟩
                obtain ⟨ma8, mc8, rfl, _⟩ := own_shape hvm8
                clear hvm8
                obtain ⟨mv8, hmv8⟩ : ∃ mv8, mv8 = (missV (putV V p).1).length := ⟨_, rfl⟩
                rw [← hmv8] at hgle ⊢
                have hle2 : ¬ (mv : Int) < (mv8 : Int) := by rw [← hmv] at hgle; omega
                clear hmv8
                have hb78 : Below w2.heap.size w2 w8 := below_step hb7 hb8
                go_wp2_with fail
                go_roundw
                case rel => exact ⟨0 + 1, _, by omega, by go_num, HB7.out.below hb8, HQ, fun _ => HQ4.out, HALL, hb78⟩
                case measure => simp [intOf]; omega
            · exact absurd (Or.inr hO) hg
        · have hkn : k = n := by omega
          have hmn : missV V = [] := miss_all hso.out (by rw [← HN.out, ← hkn]; exact hall.out) hlong
          clear hlt
          go_wp2_with fail
          refine (done_ok wr _ b m V hbx.out HTR.out).mono ?_; rintro e w5 ⟨vx, rfl, hvx, hb5⟩
          obtain ⟨xa, xc, rfl, _, hxl, _⟩ := owned_lie hvx
          clear hvx
          rw [HDN.out, if_pos hmn] at hxl ⊢
          go_wp2_with fail
          refine (bytes_any l l _ _ _ _ _ (by omega) hxl (HAT.out.below (below_step hbr hb5))).mono ?_; rintro e w6 ⟨rfl, hb6⟩
          have hsl : sameB l l = true := by simp [sameB]
          rw [hsl]
          clear hxl hsl
          go_wp2_with fail
          refine (miss_ok w6 _ b m _ (hbx.out.below (below_step hb5 hb6))).mono ?_; rintro e w8 ⟨vm8, rfl, hvm8, hb8⟩
          obtain ⟨ma8, mc8, rfl, _⟩ := own_shape hvm8
          clear hvm8
          rw [hmn]
          go_wp2_with fail
          go_ret
          exact ⟨rfl, below_step (below_step (below_step hbr hb5) hb6) hb8⟩

theorem walk_zero (l : List Nat) (a : Option Addr) (cap : Nat) (O : List Int) (oa : Option Addr) (ocap : Nat) (w : World) (hl : l.length ≤ 140737488351232) (hlc : l.length ≤ cap) (hcm : cap ≤ 9223372036854775807) (hn : a = none → l.length = 0 ∧ cap = 0) (hby : Byt l) (ht : Tab w) (hat : Lie w a (bcells l))
    (hol : O.length ≤ ocap) (hoc : ocap ≤ 9223372036854775807) (hoa : Lie w oa (O.map (Value.int .i64))) (hov : ∀ x ∈ O, -9223372036854775808 ≤ x ∧ x ≤ 9223372036854775807) (hlong : l.length ≤ 8192) (hO : O.length = 0) :
    Calls Tryd.prog 5 #[.slice a l.length cap, .slice oa O.length ocap] w fun e w' => e = .returned (.bool true) ∧ Below w.heap.size w w' := by
  have HAT := Lib.hid hat
  have HBY := Lib.hid hby
  have HT := Lib.hid ht
  have HOA := Lib.hid hoa
  have HOV := Lib.hid hov
  obtain ⟨on, hon⟩ : ∃ n, n = O.length := ⟨_, rfl⟩
  rw [← hon] at hol ⊢
  rw [hO] at hon
  subst hon
  have hC := cut_all l a cap w hl hlc hcm hn hby ht hat
  have HC := Lib.hid hC
  clear hat hby ht hn hoa hov hC
  have hC2 := HC.out
  rw [show codeOf l = 0 by rw [codeOf, if_pos hlong], show nnOf l = nOf l by rw [nnOf, if_pos hlong]] at hC2
  have HC2 := Lib.hid hC2
  have hn16 := nOf_le16 hlong
  have hn1 := nOf_pos l
  obtain ⟨n, hnn⟩ : ∃ n, n = nOf l := ⟨_, rfl⟩
  rw [← hnn] at hn16 hn1
  have HN := Lib.hid hnn
  clear hC2 hnn
  go_enter Tryd.func5, Tryd.ntmps5
  go_wp2_with fail
  refine HC2.out.mono ?_; rintro e w1 ⟨v, ps, rfl, hps, hpl, hpart, hb1⟩
  have HPS := Lib.hid hps
  have HPT := Lib.hid hpart
  rw [← HN.out] at hpl
  obtain ⟨pa, pc, rfl, hpn, hpc, hpcm⟩ := own_shape hps.1
  clear hps hpart
  go_wp2_with fail
  refine (awake_ok _ (cut.Tab.below HT.out hb1)).mono ?_; rintro e w2 ⟨rfl, hb2⟩
  have hB2 : Below w.heap.size w w2 := below_step hb1 hb2
  go_wp2_with fail
  refine (new_ok _).mono ?_; rintro e w3 ⟨b, m, rfl, hbox, hb3⟩
  have hB3 : Below w.heap.size w w3 := below_step hB2 hb3
  have HBX := Lib.hid hbox
  clear hbox
  have hnz : ¬ (n : Int) = 0 := by omega
  have hnz2 : ((n : Int) == 0) = false := by simp; omega
  go_wp2_with fail
  go_loopw [8] (fun i wr => ∃ (k : Nat) (V : BoxV), k ≤ 0 ∧ i = .int .i64 k ∧ Hid (BoxAt wr w2.heap.size b m V) ∧ Hid (SomeOf l V) ∧ (0 < k → 0 < V.cnt) ∧ Below w2.heap.size w2 wr) (fun i _ => 0 - (intOf i).toNat)
  case atStart => exact ⟨0, _, Nat.zero_le _, rfl, HBX, some_empty l, by omega, hb3⟩
  case round =>
    obtain ⟨k, V, hk, rfl, hbx, hso, hkc, hb⟩ := hrel
    by_cases hlt : k < 0
    · exact absurd hlt (by omega)
    · obtain rfl : k = 0 := by omega
      rw [show ((0 : Nat) : Int) = 0 from rfl]
      have hvc0 : 0 < 0 → 0 < V.cnt := fun h => hkc h
      clear hkc hlt
      go_wp2_with fail
      go_loopw [9] (fun i wq => ∃ (k : Nat) (V : BoxV), k ≤ n ∧ i = .int .i64 k ∧ Hid (BoxAt wq w2.heap.size b m V) ∧ Hid (SomeOf l V) ∧ (0 < k ∨ 0 < 0 → 0 < V.cnt) ∧ Hid (∀ i, i < k → V.get i ≠ none) ∧ Below w2.heap.size w2 wq) (fun i _ => n - (intOf i).toNat)
      case atStart => exact ⟨0, V, Nat.zero_le _, rfl, hbx, hso, fun h => by rcases h with h | h; omega; exact hvc0 h, fun i hi => absurd hi (by omega), hb⟩
      case round =>
        obtain ⟨k, V, hk, rfl, hbx, hso, hkc, hall, hb⟩ := hrel
        have hdone := done_part hlong hso.out hbx.out.wf
        have HDN := Lib.hid hdone
        clear hdone
        have hbr : Below w.heap.size w wr := hB2.trans (Below.mono hb hB2.size)
        have hTr := cut.Tab.below HT.out hbr
        have HTR := Lib.hid hTr
        clear hTr
        by_cases hlt : k < n
        · have hi2 : k < ps.length := by omega
          obtain ⟨p, hp⟩ : ∃ p, p = ps[k] := ⟨_, rfl⟩
          have hb1r : Below w1.heap.size w1 wr := below_step hb2 hb
          have hPr := HPS.out.below hb1r
          have hgood := own_good hPr hlong HBY.out HPT.out k hi2
          have hip := HPT.out k hi2
          rw [← hp] at hgood hip
          obtain ⟨pg, rfl⟩ : ∃ pg, pa = some ⟨pg, 0, none⟩ := by
            obtain ⟨pg, pcap, e1, _⟩ := owned_some hPr.1 (by omega)
            simp only [Value.slice.injEq] at e1
            exact ⟨pg, e1.1⟩
          have hcells : ∀ W, Below wr.heap.size wr W → ∀ j, j < 4 → W.cell? ⟨pg, k * 4 + j, none⟩ = (pcells p)[j]? := by
            intro W hW j hj
            rw [World.ownsRow.cellAt (hPr.below hW).1 (k * 4 + j) (by rw [hpl]; omega), pcellsL_get ps k hi2 j hj, hp]
          obtain ⟨q1, q2, q3, q4⟩ := put_part hlong hso.out hip (by rw [← HN.out]; exact hlt)
          have hP : ∀ W, Below wr.heap.size wr W → Calls Tryd.prog 17 #[.pointer (some ⟨b, 0, none⟩), .agg #[.int .i64 p.pos, .int .i64 p.tot, .int .u32 p.sum, .slice p.addr p.data.length p.cap]] W fun e w' => e = .returned (.int .i64 0) ∧ BoxAt w' w2.heap.size b m (putV V p).1 ∧ Below w2.heap.size w2 w' := by
            intro W hW
            have hbW := hb.trans (hW.mono hb.size)
            have hBW := hbx.out.below hW
            refine (put_any p W w2.heap.size b m V hBW hbW.size (hgood.below hW)).mono ?_
            rintro e w' ⟨rfl, h1, h2⟩
            exact ⟨by rw [q1], h1, hbW.trans (h2.below hbW.size (fun j hj => by have := hBW.lob; have := hBW.lom; omega))⟩
          have hml : 0 < V.cnt → (missV (putV V p).1).length ≤ (missV V).length := fun h => miss_put hlong hso.out hip (by rw [← HN.out]; exact hlt) h
          have hall2 : ∀ i, i < k + 1 → (putV V p).1.get i ≠ none := by
            intro i hi
            rw [q3]
            split
            · simp
            · exact hall.out i (by omega)
          have HP := Lib.hid hP
          have HQ := Lib.hid q2
          have HQ4 := Lib.hid q4
          have HCE := Lib.hid hcells
          have HML := Lib.hid hml
          have HALL := Lib.hid hall2
          have hlt2 : (k : Int) < (n : Int) := by omega
          have hk0 : (0 : Int) ≤ (k : Int) := by omega
          clear hPr hgood hip hp hcells hP q1 q2 q3 q4 hml hall2
          go_wp2_with fail
          refine (miss_ok wr _ b m V hbx.out).mono ?_; rintro e w4 ⟨vm, rfl, hvm, hb4⟩
          obtain ⟨ma, mc, rfl, _⟩ := own_shape hvm
          clear hvm
          obtain ⟨mv, hmv⟩ : ∃ mv, mv = (missV V).length := ⟨_, rfl⟩
          rw [← hmv]
          go_wp2_with fail
          refine (done_ok w4 _ b m V (hbx.out.below hb4) (cut.Tab.below HTR.out hb4)).mono ?_; rintro e w5 ⟨vx, rfl, hvx, hb5⟩
          have hb45 : Below wr.heap.size wr w5 := below_step hb4 hb5
          obtain ⟨xa, xc, rfl, _, hxl, _⟩ := owned_lie hvx
          clear hvx
          rw [HDN.out] at hxl ⊢
          by_cases hm : missV V = []
          · rw [if_pos hm] at hxl ⊢
            have hmv0 : mv = 0 := by rw [hmv, hm]; rfl
            subst hmv0
            clear hmv
            go_wp2_with fail
            refine (bytes_any l l _ _ _ _ _ (by omega) hxl (HAT.out.below (below_step hbr hb45))).mono ?_; rintro e w6 ⟨rfl, hb6⟩
            have hz : Below wr.heap.size wr w6 := below_step hb45 hb6
            have hsl : sameB l l = true := by simp [sameB]
            rw [hsl]
            have c0 : w6.cell? ⟨pg, k * 4, none⟩ = some (.int .i64 p.pos) := HCE.out _ hz 0 (by omega)
            have c1 : w6.cell? ⟨pg, k * 4 + 1, none⟩ = some (.int .i64 p.tot) := HCE.out _ hz 1 (by omega)
            have c2 : w6.cell? ⟨pg, k * 4 + 2, none⟩ = some (.int .u32 p.sum) := HCE.out _ hz 2 (by omega)
            have c3 : w6.cell? ⟨pg, k * 4 + 3, none⟩ = some (.slice p.addr p.data.length p.cap) := HCE.out _ hz 3 (by omega)
            clear hxl
            go_wp2_with fail
            refine (HP.out _ hz).mono ?_; rintro e w7 ⟨rfl, hbx7, hb7⟩
            have HB7 := Lib.hid hbx7
            clear hbx7 c0 c1 c2 c3
            by_cases hg : 0 < k ∨ 0 < 0
            · have hV0 := hkc hg
              have hgle := HML.out hV0
              by_cases hk1 : 0 < k
              · have hk1' : (0 : Int) < (k : Int) := by omega
                go_wp2_with fail
                refine (miss_ok w7 _ b m _ HB7.out).mono ?_; rintro e w8 ⟨vm8, rfl, hvm8, hb8⟩
                obtain ⟨ma8, mc8, rfl, _⟩ := own_shape hvm8
                clear hvm8
                obtain ⟨mv8, hmv8⟩ : ∃ mv8, mv8 = (missV (putV V p).1).length := ⟨_, rfl⟩
                rw [← hmv8] at hgle ⊢
                obtain rfl : mv8 = 0 := by rw [hm] at hgle; simpa using hgle
                clear hmv8
                have hb78 : Below w2.heap.size w2 w8 := below_step hb7 hb8
                go_wp2_with fail
                go_roundw
                case rel => exact ⟨k + 1, _, by omega, by go_num, HB7.out.below hb8, HQ, fun _ => HQ4.out, HALL, hb78⟩
                case measure => simp [intOf]; omega
              · exfalso; omega
            · obtain rfl : k = 0 := by omega
              clear hg
              go_wp2_with fail
              go_roundw
              case rel => exact ⟨0 + 1, _, by omega, by go_num, HB7, HQ, fun _ => HQ4.out, HALL, hb7⟩
              case measure => simp [intOf]; omega
          · rw [if_neg hm] at hxl ⊢
            have hmv1 : ¬ mv = 0 := by rw [hmv]; intro h; exact hm (List.length_eq_zero_iff.1 h)
            have hmv2 : ((mv : Int) == 0) = false := by simp; omega
            have hz := hb45
            have c0 : w5.cell? ⟨pg, k * 4, none⟩ = some (.int .i64 p.pos) := HCE.out _ hz 0 (by omega)
            have c1 : w5.cell? ⟨pg, k * 4 + 1, none⟩ = some (.int .i64 p.tot) := HCE.out _ hz 1 (by omega)
            have c2 : w5.cell? ⟨pg, k * 4 + 2, none⟩ = some (.int .u32 p.sum) := HCE.out _ hz 2 (by omega)
            have c3 : w5.cell? ⟨pg, k * 4 + 3, none⟩ = some (.slice p.addr p.data.length p.cap) := HCE.out _ hz 3 (by omega)
            clear hxl
            go_wp2_with fail
            refine (HP.out _ hz).mono ?_; rintro e w7 ⟨rfl, hbx7, hb7⟩
            have HB7 := Lib.hid hbx7
            clear hbx7 c0 c1 c2 c3
            by_cases hg : 0 < k ∨ 0 < 0
            · have hV0 := hkc hg
              have hgle := HML.out hV0
              by_cases hk1 : 0 < k
              · have hk1' : (0 : Int) < (k : Int) := by omega
                go_wp2_with fail
                refine (miss_ok w7 _ b m _ HB7.out).mono ?_; rintro e w8 ⟨vm8, rfl, hvm8, hb8⟩
                obtain ⟨ma8, mc8, rfl, _⟩ := own_shape hvm8
                clear hvm8
                obtain ⟨mv8, hmv8⟩ : ∃ mv8, mv8 = (missV (putV V p).1).length := ⟨_, rfl⟩
                rw [← hmv8] at hgle ⊢
                have hle2 : ¬ (mv : Int) < (mv8 : Int) := by rw [← hmv] at hgle; omega
                clear hmv8
                have hb78 : Below w2.heap.size w2 w8 := below_step hb7 hb8
                go_wp2_with fail
                go_roundw
                case rel => exact ⟨k + 1, _, by omega, by go_num, HB7.out.below hb8, HQ, fun _ => HQ4.out, HALL, hb78⟩
                case measure => simp [intOf]; omega
              · exfalso; omega
            · obtain rfl : k = 0 := by omega
              clear hg
              go_wp2_with fail
              go_roundw
              case rel => exact ⟨0 + 1, _, by omega, by go_num, HB7, HQ, fun _ => HQ4.out, HALL, hb7⟩
              case measure => simp [intOf]; omega
        · have hkn : k = n := by omega
          have hmn : missV V = [] := miss_all hso.out (by rw [← HN.out, ← hkn]; exact hall.out) hlong
          clear hlt
          go_wp2_with fail
          refine (done_ok wr _ b m V hbx.out HTR.out).mono ?_; rintro e w5 ⟨vx, rfl, hvx, hb5⟩
          obtain ⟨xa, xc, rfl, _, hxl, _⟩ := owned_lie hvx
          clear hvx
          rw [HDN.out, if_pos hmn] at hxl ⊢
          go_wp2_with fail
          refine (bytes_any l l _ _ _ _ _ (by omega) hxl (HAT.out.below (below_step hbr hb5))).mono ?_; rintro e w6 ⟨rfl, hb6⟩
          have hsl : sameB l l = true := by simp [sameB]
          rw [hsl]
          clear hxl hsl
          go_wp2_with fail
          refine (miss_ok w6 _ b m _ (hbx.out.below (below_step hb5 hb6))).mono ?_; rintro e w8 ⟨vm8, rfl, hvm8, hb8⟩
          obtain ⟨ma8, mc8, rfl, _⟩ := own_shape hvm8
          clear hvm8
          rw [hmn]
          go_wp2_with fail
          go_ret
          exact ⟨rfl, below_step (below_step (below_step hbr hb5) hb6) hb8⟩

theorem walk_long (l : List Nat) (a : Option Addr) (cap : Nat) (v1 : Value) (w : World) (hl : l.length ≤ 140737488351232) (ht : Tab w) (hlong : 8192 < l.length) :
    Calls Tryd.prog 5 #[.slice a l.length cap, v1] w fun e w' => e = .returned (.bool true) ∧ Below w.heap.size w w' := by
  have hC := cut_long l a cap w hlong (by omega)
  have HT := Lib.hid ht
  clear ht
  have h2 : (8192 : Int) < (l.length : Int) := by omega
  go_enter Tryd.func5, Tryd.ntmps5
  go_wp2_with fail
  refine hC.mono ?_; rintro e w1 ⟨rfl, rfl⟩
  go_wp2_with fail
  refine (awake_ok _ HT.out).mono ?_; rintro e w2 ⟨rfl, hb2⟩
  go_wp2_with fail
  go_ret
  exact ⟨by simp [hlong], hb2⟩

theorem lawWalk {H : Type} (enc : TypeId × Value → H) (W : World) (base : Nat) (args : Array Value) (ds : List (DataW H)) (p : List MemPlace)
    (hval : ∀ (j : Nat) t v, Tryd.f5.params[j]? = some t → args[j]? = some v → Value.okWide Tryd.prog W .any base t v)
    (hA : DataW.TrodAll enc Tryd.prog W 0 (fun _ => true) true Tryd.f5.params.toList args.toList ds p)
    (hsz : (DataW.weightsEach Tryd.prog Tryd.f5.params.toList ds).all (· ≤ reachBytes) = true) (ht : Tab W) :
    Calls Tryd.prog 5 args W fun e w' => e = .returned (.bool true) ∧ Below W.heap.size W w' := by
  rw [Tryd.params5] at hA hval hsz
  obtain ⟨v0, vs0, d0, ds0, p0, q0, hargs, rfl, rfl, h0, r0⟩ := trodAll_cons hA
  obtain ⟨v1, vs1, d1, ds1, p1, q1, rfl, rfl, rfl, h1, r1⟩ := trodAll_cons r0
  obtain ⟨rfl, rfl, rfl⟩ := trodAll_nil r1
  obtain rfl : args = #[v0, v1] := by cases args; simp_all
  obtain ⟨a, l, cap, rfl, hlc, hcm, hn, hat, hwf, hd⟩ := open_slice_int Tryd.underlying22 Tryd.underlying5 (by kernel_rfl) (hval 0 22 v0 rfl rfl) h0
  obtain ⟨oa, O, ocap, rfl, hol, hoc, _, hoat, howf, _⟩ := open_slice_int Tryd.underlying43 Tryd.underlying3 (by kernel_rfl) (hval 1 43 v1 rfl rfl) h1
  have hlen : l.length ≤ 140737488351232 := by
    rcases hd with ⟨_, rfl⟩ | ⟨sp, rfl, hsp⟩
    · simp
    · have := sized_slice hsz (j := 0) rfl rfl Tryd.underlying22
      have e1 : Tryd.prog.bytesOf 5 = 1 := by kernel_rfl
      rw [e1] at this
      simp only [List.length_map, reachBytes] at this
      omega
  obtain ⟨m, rfl, hm⟩ := nat_list l (byte_wf hwf)
  rw [bcells_of] at hat
  simp only [List.length_map] at *
  have hov : ∀ x ∈ O, -9223372036854775808 ≤ x ∧ x ≤ 9223372036854775807 := by
    intro x hx
    have := howf x hx
    simp [Lit.wf, IntKind.min, IntKind.max, IntKind.signed, IntKind.bits] at this
    omega
  have e2 : ocap ≤ 9223372036854775807 := by unfold maxLen at hoc; omega
  have e3 : cap ≤ 9223372036854775807 := by unfold maxLen at hcm; omega
  by_cases hlong : m.length ≤ 8192
  · by_cases hO : 0 < O.length
    · exact walk_pos m a cap O oa ocap W hlen hlc e3 hn hm ht hat hol e2 hoat hov hlong hO
    · exact walk_zero m a cap O oa ocap W hlen hlc e3 hn hm ht hat hol e2 hoat hov hlong (by omega)
  · exact walk_long m a cap _ W hlen ht (by omega)

theorem laid_met (os : Os) : laidMet Tryd.prog Rows.chunkBackRow.laid ((laidWorld os).forCall (fun _ _ => 0) ⟨#[], #[.slice none 0 0, .slice none 0 0], []⟩).memory :=
  laidMet_of_run' 8 (by kernel_rfl) (by kernel_rfl)
theorem reads (os : Os) {H : Type} (enc : TypeId × Value → H) : ∃ places, DataW.whole enc Tryd.prog ((laidWorld os).forCall (fun _ _ => 0) ⟨#[], #[.slice none 0 0, .slice none 0 0], []⟩).memory Tryd.f5.params.toList Rows.chunkBackSpec.vars false (#[.slice none 0 0, .slice none 0 0] : Array Value).toList 8 = some ([.nil, .nil], [], places) :=
  ⟨[], by kernel_rfl⟩

set_option maxRecDepth 100000 in
theorem lifted (os : Os) (started : os.Started) (H : Type) (enc : TypeId × Value → H) (F : Stop.Interp) :
    ReturnsInHanded {} Tryd.checked os 5 .any ((OpenSpec.ofChange Rows.chunkBackSpec).preRow enc Tryd.prog Tryd.f5 Rows.chunkBackRow.domain false Rows.chunkBackRow.laid) (((OpenSpec.ofChange Rows.chunkBackSpec).at F).post enc Tryd.prog Tryd.f5 false true false false) := by
  obtain ⟨places, hx⟩ := reads os enc
  refine returnsInHanded_of_row (C := Tryd.checked) (s := (OpenSpec.ofChange Rows.chunkBackSpec)) own started (by kernel_rfl) Tryd.func5
    (witness_row_at (enc := enc) (C := Tryd.checked) false (laidWorld os) #[.slice none 0 0, .slice none 0 0] rfl (by kernel_rfl) (by kernel_rfl) (by kernel_rfl)
      (OpenSpec.preRow_of_cond 8 hx (by kernel_rfl) (fun k hk => by cases hk) (by kernel_rfl) (laid_met os))) ?_
  intro W base args ds gs before hval hW hcnd hk hsz hL _ _
  exact law_post_at (C := Tryd.checked) laidOut (fun ds h => by match ds, h with | [_, _], _ => rfl) 4 rfl Tryd.underlying4 rfl (by kernel_rfl) hW hsz
    (fun p hA hs => lawWalk enc W base args ds p hval hA hs (tab hL))

theorem said : Rows.ChunkBackSaid :=
  OpenClaim.holds_of_cond 5 Tryd.f5 rfl rfl rfl rfl rfl rfl rfl ⟨rfl, rfl, rfl, rfl, rfl⟩ rfl rfl rfl rfl rfl (by kernel_rfl) Tryd.func5 (by kernel_rfl)
    (of_decide_eq_true (by kernel_rfl)) (by unfold Func.isWrapper; first | (rw [if_pos (by decide +kernel)]; kernel_rfl) | (rw [if_neg (by decide +kernel)]; exact ⟨rfl, rfl⟩))
    (fun os started H enc _ F => by rw [OpenClaim.pre_eq_preRow]; exact lifted os started H enc F)

theorem plain (f : FuncId) (fn : Func) (hf : Tryd.pinned.checked.prog.funcNamed "purse/purselaw12.ChunkBack" = some f) (hfn : Tryd.pinned.checked.prog.funcs[f]? = some fn) :
    true = Tryd.pinned.checked.prog.looks [] ∧ ∀ (j : Nat) t, fn.params[j]? = some t → Tryd.pinned.checked.prog.wantsStandIn t = false := by
  obtain rfl : f = 5 := Option.some.inj ((show Tryd.prog.funcNamed "purse/purselaw12.ChunkBack" = some 5 by kernel_rfl).symm.trans hf) |>.symm
  obtain rfl : fn = Tryd.f5 := (Option.some.inj (Tryd.func5.symm.trans hfn)).symm
  refine ⟨by kernel_rfl, ?_⟩
  have h : (Tryd.f5.params.toList.all fun t => ! Tryd.prog.wantsStandIn t) = true := by kernel_rfl
  intro j t ht
  have := List.all_eq_true.1 h t (by simpa using Array.mem_of_getElem? ht)
  have h2 : Tryd.prog.wantsStandIn t = false := by simpa using this
  exact h2

theorem card : Rows.ChunkBackCardSaid :=
  Claim7.holds_tied_plain_at .later [] _ _ _ _ said (fun _ h => by cases h) (by kernel_rfl) (fun _ h => by cases h) chunkBack_row_tie rfl ⟨rfl, rfl⟩ (by kernel_rfl) rfl plain (by kernel_rfl)
#print axioms card
end Go.Proofs.YtgpkenbefolegaaDoor.chunkBack
