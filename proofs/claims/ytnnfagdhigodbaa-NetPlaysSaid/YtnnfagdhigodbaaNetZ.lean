/-
  NetPlays: Send on both nets.
-/
import Derived.Test.YtnnfagdhigodbaaNetY
namespace Go.Proofs.Ytnnfagdhigodbaa.netz
open Go.ChangeShapes Go.WideShapes Go.ChangeAt Go.RowKit
open Go.Proofs.Ytnnfagdhigodbaa.kit Go.Proofs.Ytnnfagdhigodbaa.byt Go.Proofs.Ytnnfagdhigodbaa.netc Go.Proofs.Ytnnfagdhigodbaa.netg Go.Proofs.Ytnnfagdhigodbaa.nets Go.Proofs.Ytnnfagdhigodbaa.nett Go.Proofs.Ytnnfagdhigodbaa.nete Go.Proofs.Ytnnfagdhigodbaa.netq Go.Proofs.Ytnnfagdhigodbaa.netr Go.Proofs.Ytnnfagdhigodbaa.netk Go.Proofs.Ytnnfagdhigodbaa.netj Go.Proofs.Ytnnfagdhigodbaa.neth Go.Proofs.Ytnnfagdhigodbaa.netx Go.Proofs.Ytnnfagdhigodbaa.nety
set_option linter.unusedVariables false
set_option linter.unusedSimpArgs false
set_option maxHeartbeats 4000000
set_option maxRecDepth 100000

def Off (g : Nat) (ps : List Pkt) : Prop := ∀ p ∈ ps, p.a ≠ some ⟨g, 0, none⟩
/-- Both nets, and a block of bytes that neither has anything in. -/
structure W6 (w wx : World) (bn br : Nat) (m : Int) (ps rs : List Pkt) (S Cs : Cuts) (g n : Nat) : Prop where
  net : NetAt wx w.heap.size bn m ps S
  ref : RefAt wx w.heap.size br m rs Cs
  dis : ∀ k, Foot wx bn k → ¬ Foot wx br k
  below : Below w.heap.size w wx
  blk : ∃ cs : Array Value, wx.heap[g]? = some (Obj.cells cs 5 (0, 0)) ∧ n ≤ cs.size
theorem W6.put {w wx : World} {bn br : Nat} {m : Int} {ps rs : List Pkt} {S Cs : Cuts} {g n : Nat} (h : W6 w wx bn br m ps rs S Cs g n) (hp : Off g ps) (hr : Off g rs) (hg : w.heap.size ≤ g) (k : Nat) (v : Value) : W6 w (wx.setCell ⟨g, k, none⟩ v) bn br m ps rs S Cs g n := by
  obtain ⟨cs, hb, hn⟩ := h.blk
  have hk : ∀ j, j ≠ g → (wx.setCell ⟨g, k, none⟩ v).heap[j]? = wx.heap[j]? := fun j hj => hp_set_ne hj
  have hfn : ∀ j, Foot wx bn j → j ≠ g := fun j hf e => (foot_lt h.net hf).2 cs (e ▸ hb)
  have hfr : ∀ j, Foot wx br j → j ≠ g := fun j hf e => (ref_foot h.ref hf).2 cs (e ▸ hb)
  have e1 := foot_same (hk bn (hfn bn (.inl rfl)))
  have e2 := foot_same (hk br (hfr br (.inl rfl)))
  refine ⟨NetAt.keep h.net (fun j hf => hk j (hfn j hf)) (fun p hpp g' hg' => hk g' (fun e => hp p hpp (by rw [hg', e]))), ?_, fun j h1 h2 => h.dis j ((e1 j).1 h1) ((e2 j).1 h2), h.below.setCell (p := ⟨g, k, none⟩) hg _, ⟨_, hp_set hb k v, by simpa using hn⟩⟩
  obtain ⟨g1, ⟨a, c, a2, c2, g2, g3, g4⟩, g6⟩ := h.ref
  refine ⟨g1, ⟨a, c, a2, c2, (hk br (hfr br (.inl rfl))).trans g2, own_kept g3 (fun g' hg' => hk g' (hfr g' ((foot_two g2 g').2 (.inr (.inl hg'))))), own_kept g4 (fun g' hg' => hk g' (hfr g' ((foot_two g2 g').2 (.inr (.inr hg')))))⟩, fun p hpp => own_kept (g6 p hpp) (fun g' hg' => hk g' (fun e => hr p hpp (by rw [hg', e])))⟩

theorem own_lie {w : World} {base g cap m : Nat} {l : List Nat} (h : OwnRow w base g cap l m) : Lie w (some ⟨g, 0, none⟩) (bcells l) ∧ ∃ cs : Array Value, w.heap[g]? = some (Obj.cells cs 5 (0, 0)) ∧ l.length ≤ cs.size := by
  have hh := h
  obtain ⟨hx, hz | ⟨g', c', cur, e', hg, hh', hc, hm, hsz, hcur⟩⟩ := hh
  · simp at hz
  simp only [Value.slice.injEq, Option.some.injEq, Addr.mk.injEq, and_true, true_and] at e'
  obtain ⟨rfl, rfl⟩ := e'
  refine ⟨.inr ⟨g, 0, rfl, (blk hh').2.2, fun i hi => ?_⟩, cur, hh', by omega⟩
  rw [bcells_len] at hi
  rw [Nat.zero_add, World.ownsRow.cellAt h i (by omega), bcells_append, List.getElem?_append_left (by rw [bcells_len]; exact hi)]

theorem net_keeps_ref {w w' : World} {base bn br : Nat} {m : Int} {ps rs : List Pkt} {S Cs : Cuts} (hN : NetAt w base bn m ps S) (hR : RefAt w base br m rs Cs) (hd : ∀ k, Foot w bn k → ¬ Foot w br k) (hm : Moved w w' bn) : RefAt w' base br m rs Cs :=
  hR.keep (fun k hf => hm.kept k (ref_foot hR hf).1 (fun h1 => hd k h1 hf)) (moved_u8 hN hm)
theorem ref_u8 {w w' : World} {base br : Nat} {m : Int} {rs : List Pkt} {Cs : Cuts} (hR : RefAt w base br m rs Cs) (hm : Moved w w' br) : ∀ (g : Nat) (cur : Array Value), w.heap[g]? = some (Obj.cells cur 5 (0, 0)) → w'.heap[g]? = w.heap[g]? :=
  fun g cur hg => hm.kept g (blk hg).2.2 (fun hf => (ref_foot hR hf).2 cur hg)
theorem ref_keeps_net {w w' : World} {base bn br : Nat} {m : Int} {ps rs : List Pkt} {S Cs : Cuts} (hN : NetAt w base bn m ps S) (hR : RefAt w base br m rs Cs) (hd : ∀ k, Foot w bn k → ¬ Foot w br k) (hm : Moved w w' br) : NetAt w' base bn m ps S :=
  NetAt.keep hN (fun k hf => hm.kept k (foot_lt hN hf).1 (fun h1 => hd k hf h1)) (fun p hp g hg => by
    obtain ⟨cur, hcur⟩ := own_heap (hN.bodies p hp) g hg
    exact ref_u8 hR hm g cur hcur)
theorem ownrow_keep {w w' : World} {base g cap mk : Nat} {l : List Nat} (h : OwnRow w base g cap l mk) (hk : ∀ (g : Nat) (cur : Array Value), w.heap[g]? = some (Obj.cells cur 5 (0, 0)) → w'.heap[g]? = w.heap[g]?) : OwnRow w' base g cap l mk := by
  refine own_kept h (fun g' hg' => ?_)
  obtain ⟨cur, hcur⟩ := own_heap h g' hg'
  exact hk g' cur hcur

theorem step6 (w wr : World) (bn br : Nat) (m : Int) (qs : List Q) (S Cs : Cuts) (o : OpV) (n : Nat) (T : Two w wr bn br m qs S Cs) (hF : Fit qs) (hag : Agree S Cs) (hcl : Cs.length ≤ n) (hk1 : o.kind ≠ 1) (hk2 : o.kind ≠ 2) (hk3 : o.kind ≠ 3) (hk4 : o.kind ≠ 4) (hk5 : o.kind ≠ 5) (hG : GoodO w o) (hol : o.l.length ≤ 140737488351232) :
    Calls Try.prog 19 #[.pointer (some ⟨bn, 0, none⟩), .pointer (some ⟨br, 0, none⟩), .agg #[.int .i64 o.kind, .int .i64 o.a, .int .i64 o.b, .slice o.ad o.l.length o.c]] wr fun e w' => e = .returned (.bool true) ∧ Went w w' bn br m (netr.step m ⟨qs, S⟩ o) (n + 1) := by
  rw [show netr.step m ⟨qs, S⟩ o = ⟨sendQ m qs S o.a o.b o.l, S⟩ by rw [netr.step, if_neg hk1, if_neg hk2, if_neg hk3, if_neg hk4, if_neg hk5]]
  have e1 : (o.kind == 1) = false := by simpa using hk1
  have e2 : (o.kind == 2) = false := by simpa using hk2
  have e3 : (o.kind == 3) = false := by simpa using hk3
  have e4 : (o.kind == 4) = false := by simpa using hk4
  have e5 : (o.kind == 5) = false := by simpa using hk5
  obtain ⟨w1, hw1⟩ : ∃ w1 : World, w1 = wr.alloc (.cells #[.int .i64 o.kind, .int .i64 o.a, .int .i64 o.b, .slice o.ad o.l.length o.c] 42) := ⟨_, rfl⟩
  have hb1 : Below wr.heap.size wr w1 := by rw [hw1]; exact below_new1 _ _
  have hbx : w1.heap[wr.heap.size]? = some (.cells #[.int .i64 o.kind, .int .i64 o.a, .int .i64 o.b, .slice o.ad o.l.length o.c] 42 (0, 0)) := by rw [hw1]; exact hp_alloc_new _ _
  have H1 := Lib.hid (T.half.old hb1)
  have hnew := T.half.new (.cells #[.int .i64 o.kind, .int .i64 o.a, .int .i64 o.b, .slice o.ad o.l.length o.c] 42)
  rw [← hw1] at hnew
  have HX1 := Lib.hid hbx
  have HO1 := Lib.hid hnew
  have HW := Lib.hid hw1
  have hxz := (blk4 hbx).2.2.2.2
  have hG1 := hG.below H1.out.below
  have HOW := Lib.hid (own_any o.l 71 o.ad o.c w1 hol hG1.nil hG1.lie)
  have HG := Lib.hid hG
  clear hw1 hbx hnew hb1 hG hG1 hk1 hk2 hk3 hk4 hk5
  go_enter Try.func19, Try.ntmps19
  go_wp2_with fail
  rw [← HW.out]
  refine HOW.out.mono ?_; rintro e w2 ⟨g, cap, rfl, hown, hb2⟩
  have h2 := H1.out.old hb2
  obtain ⟨ps, hps1, hpq⟩ := H1.out.net
  obtain ⟨rs, hrs1, hrq⟩ := H1.out.ref
  have hps := hps1.below hb2
  have hrs := hrs1.below hb2
  have hg1 := own_from hown g rfl
  have hoffp : Off g ps := fun p hp e => by have := (own_from (hps1.bodies p hp) g e).2; omega
  have hoffr : Off g rs := fun p hp e => by have := (own_from (hrs1.bodies p hp) g e).2; omega
  have hx2 := hp_step HX1.out hb2
  have hO2 := out_below H1.out hb2 HO1.out
  obtain ⟨x0, x1, x2, x3, xz⟩ := blk4 hx2
  have hlie := (own_lie hown).1
  have HD := Lib.hid (sendz w2 _ _ _ _ _ o.a o.b (some ⟨g, 0, none⟩) o.l cap hps h2.below.size (by simp) hlie)
  rw [hpq] at HD
  have H2 := Lib.hid h2
  have HPS := Lib.hid hps
  have HRS := Lib.hid hrs
  have HOFP := Lib.hid hoffp
  have HOFR := Lib.hid hoffr
  have HOWN := Lib.hid hown
  have HX2 := Lib.hid hx2
  have HO2 := Lib.hid hO2
  have HRQ := Lib.hid hrq
  have hgb : w.heap.size ≤ g := by have := H1.out.below.size; omega
  clear hown hb2 h2 hps1 hpq hps hrs1 hrs hrq hoffp hoffr hx2 hO2 hlie HOW
  go_wp2_with fail
  refine HD.out.mono ?_; rintro e w3 ⟨rfl, ⟨ps', hn3, hq3, hfr3⟩, hb3, hm3⟩
  obtain ⟨h3, hu3, hx3⟩ := H2.out.netop ⟨ps', hn3, rfl⟩ hb3 hm3
  have hr3 := net_keeps_ref HPS.out HRS.out H2.out.dis hm3
  obtain ⟨hxe3, hxo3⟩ := hx3 _ xz HO2.out.1 HO2.out.2
  obtain ⟨y0, y1, y2, y3, yz⟩ := blk4 (hxe3.trans HX2.out)
  have hG3 := HG.out.below h3.below
  have HT := Lib.hid (rsendz w3 _ _ _ _ _ _ o.a o.b o.ad o.l o.c hr3 hag h3.below.size hG3.nil hG3.lie)
  rw [HRQ.out] at HT
  have HPS' : Hid (Off g ps') := by
    intro p hp e
    rcases hfr3 p hp with h | h
    · exact HOFP.out p h e
    · have := h g e; omega
  have H3 := Lib.hid h3
  have HN3 := Lib.hid hn3
  have HR3 := Lib.hid hr3
  have HQ3 := Lib.hid hq3
  have HX3 := Lib.hid (hxe3.trans HX2.out)
  have HO3 := Lib.hid hxo3
  have HOWN3 := Lib.hid (ownrow_keep HOWN.out hu3)
  have hg3 : g < w3.heap.size := (own_from HOWN3.out g rfl).2
  clear hn3 hq3 hfr3 hb3 hm3 h3 hu3 hx3 hr3 hxe3 hxo3 hG3 HD x0 x1 x2 x3
  go_wp2_with fail
  refine HT.out.mono ?_; rintro e w4 ⟨rfl, ⟨rs', hn4, hq4, hfr4⟩, hb4, hm4⟩
  obtain ⟨h4, hu4, hx4⟩ := H3.out.refop ⟨rs', hn4, rfl⟩ hb4 hm4
  have hp4 := ref_keeps_net HN3.out HR3.out H3.out.dis hm4
  obtain ⟨hxe4, hxo4⟩ := hx4 _ yz HO3.out.1 HO3.out.2
  obtain ⟨z0, z1, z2, z3, zz⟩ := blk4 (hxe4.trans HX3.out)
  have hown4 := ownrow_keep HOWN3.out hu4
  have hG4 := HG.out.below h4.below
  have HKE := Lib.hid (kept_any o.l 71 g cap o.ad o.c _ w4 hol hown4 hG4.lie)
  have HRS' : Hid (Off g rs') := by
    intro p hp e
    rcases hfr4 p hp with h | h
    · exact HOFR.out p h e
    · have := h g e; omega
  have H6 : Hid (W6 w w4 bn br m ps' rs' S Cs g o.l.length) := ⟨hp4, hn4, h4.dis, h4.below, (own_lie hown4).2⟩
  have HQ4 := Lib.hid hq4
  clear hn4 hq4 hfr4 hb4 hm4 h4 hu4 hx4 hp4 hxe4 hxo4 hown4 hG4 HT y0 y1 y2 y3
  go_wp2_with fail
  refine HKE.out.mono ?_; rintro e w5 ⟨rfl, hb5⟩
  have H65 : Hid (W6 w w5 bn br m ps' rs' S Cs g o.l.length) := by
    have h := H6.out
    have e1 := hb5.block bn h.net.lt
    have e2 := hb5.block br h.ref.lt
    obtain ⟨cs, hc1, hc2⟩ := h.blk
    exact ⟨h.net.below hb5, h.ref.below hb5, fun k k1 k2 => h.dis k ((foot_same e1 k).1 k1) ((foot_same e2 k).1 k2), below_step h.below hb5, cs, hp_step hc1 hb5, hc2⟩
  clear hb5 HKE z0 z1 z2 z3
  go_wp2_with fail
  go_loopw [16] (fun i wx => ∃ k : Nat, k ≤ o.l.length ∧ i = .int .i64 k ∧ Hid (W6 w wx bn br m ps' rs' S Cs g o.l.length)) (fun i _ => o.l.length - (intOf i).toNat)
  case atStart => exact ⟨0, Nat.zero_le _, rfl, H65⟩
  case round =>
    obtain ⟨k, hk, rfl, h6⟩ := hrel
    by_cases hlt : k < o.l.length
    · obtain ⟨cs, hc1, hc2⟩ := h6.out.blk
      obtain ⟨b0, b1, b2⟩ := blk hc1
      have hget : ∃ v, wr.cell? ⟨g, k, none⟩ = some v := ⟨_, (b0 k).trans (Array.getElem?_eq_getElem (by omega))⟩
      obtain ⟨v, hv⟩ := hget
      have hfz := b1 k
      have HNX := Lib.hid (h6.out.put HPS'.out HRS'.out hgb k (.int .u8 98))
      clear b0 b1 hc1
      go_wp2_with fail
      go_roundw
      case rel => exact ⟨k + 1, by omega, by go_num, HNX⟩
      case measure => simp [intOf]; omega
    · obtain rfl : k = o.l.length := by omega
      go_wp2_with fail
      go_ret
      refine ⟨by first | rfl | simp, Cs, ⟨⟨ps', h6.out.net, HQ3.out⟩, ⟨rs', h6.out.ref, HQ4.out⟩, h6.out.dis, h6.out.below⟩, hag, by omega⟩
end Go.Proofs.Ytnnfagdhigodbaa.netz
