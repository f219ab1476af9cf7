/-
  The document's Open.
-/
import Derived.Test.YtodoncmielfbeaaChF
namespace Go.Proofs.Ytodoncmielfbeaa.cho
open Go.ChangeShapes Go.WideShapes Go.ChangeAt Go.RowKit
open Go.Proofs.Ytodoncmielfbeaa.kit Go.Proofs.Ytodoncmielfbeaa.mapkit Go.Proofs.Ytodoncmielfbeaa.byt Go.Proofs.Ytodoncmielfbeaa.own Go.Proofs.Ytodoncmielfbeaa.accd Go.Proofs.Ytodoncmielfbeaa.chd Go.Proofs.Ytodoncmielfbeaa.chb Go.Proofs.Ytodoncmielfbeaa.chr Go.Proofs.Ytodoncmielfbeaa.chrr Go.Proofs.Ytodoncmielfbeaa.che Go.Proofs.Ytodoncmielfbeaa.chf Go.Proofs.Ytodoncmielfbeaa.chq
set_option linter.unusedVariables false
set_option linter.unusedSimpArgs false
set_option maxHeartbeats 2000000
set_option maxRecDepth 100000

theorem infoEntry : (Try.prog.info? 39).map (fun i => (i.zero, i.size, i.bytes)) = some (some (.agg #[.int .i64 0, .slice none 0 0]), 2, 32) := by kernel_rfl
/-- What a call that lists entries answers. -/
structure OutE (w w' : World) (a : Option Addr) (c : Nat) (es : List Et) (L : List (Int × List Nat)) : Prop where
  own : OwnE w' w.heap.size a c es
  data : es.map le = L
  len : ∀ e ∈ es, e.l.length ≤ 140737488355328
theorem outE_nil (w w' : World) : OutE w w' none 0 [] [] := ⟨ownE_nil _ _, rfl, by simp⟩
theorem OutE.below {w w' w2 : World} {a : Option Addr} {c : Nat} {es : List Et} {L : List (Int × List Nat)} (h : OutE w w' a c es L) (hb : Below w'.heap.size w' w2) : OutE w w2 a c es L := ⟨h.own.below hb, h.data, h.len⟩
theorem OutE.size {w w' : World} {a : Option Addr} {c : Nat} {es : List Et} {L : List (Int × List Nat)} (h : OutE w w' a c es L) : es.length = L.length := by rw [← h.data, List.length_map]
/-- One more entry. -/
theorem OutE.step {w wr w' : World} {a a2 : Option Addr} {c c2 : Nat} {es : List Et} {L : List (Int × List Nat)} {ob : Obj} {v' : Value} {s : Int} {d : List Nat} (h : OutE w wr a c es L)
    (hbd : wr.ownsRow w.heap.size 5 1 (.slice a2 d.length c2) d.length (bcells d)) (hd : d.length ≤ 140737488355328)
    (hg : (wr.alloc ob).grownBy w' (Value.slice a es.length c).ownBlock) (hown : w'.ownsRow w.heap.size 39 2 v' (es.length + 1) (es.flatMap Et.cells ++ [.int .i64 s, .slice a2 d.length c2])) :
    ∃ a3 c3, v' = .slice a3 (es ++ [(⟨s, d, a2, c2⟩ : Et)]).length c3 ∧ OutE w w' a3 c3 (es ++ [(⟨s, d, a2, c2⟩ : Et)]) (L ++ [(s, d)]) := by
  obtain ⟨a3, c3, rfl⟩ := own_shape hown
  have hk : ∀ {n cc : Nat} {aa : Option Addr} {xs : List Value}, wr.ownsRow w.heap.size 5 1 (.slice aa n cc) n xs → w'.ownsRow w.heap.size 5 1 (.slice aa n cc) n xs := by
    intro n cc aa xs ho
    refine own_kept ho (fun g hgg => ?_)
    have hgz := (own_from ho g hgg).2
    refine (hg.block g (by rw [size_new]; omega) (fun e => ?_)).trans (hp_alloc_old hgz)
    have e' := own_block h.own.row g e.symm
    obtain ⟨cur, hcur⟩ := own_heap h.own.row g e'
    obtain ⟨cur2, hcur2⟩ := own_heap ho g hgg
    rw [hcur] at hcur2
    simp at hcur2
  refine ⟨a3, c3, by simp, ⟨?_, fun e he => ?_⟩, by rw [List.map_append, h.data]; rfl, fun e he => ?_⟩
  · simpa [Et.cells] using hown
  · rcases List.mem_append.1 he with he | he
    · exact hk (h.own.body e he)
    · rw [List.mem_singleton.1 he]; exact hk hbd
  · rcases List.mem_append.1 he with he | he
    · exact h.len e he
    · rw [List.mem_singleton.1 he]; exact hd
theorem lie_new2 (w : World) (T : TypeId) (x y : Value) : Lie (w.alloc (.cells #[x, y] T)) (some ⟨w.heap.size, 0, none⟩) [x, y] := by
  refine .inr ⟨_, 0, rfl, by rw [size_new]; omega, fun i hi => ?_⟩
  have hb := (kit.blk (hp_alloc_new w (.cells #[x, y] T))).1
  rw [Nat.zero_add, hb]
  match i, hi with
  | 0, _ => rfl
  | 1, _ => rfl
theorem nod_len : ∀ (n : Nat) (L : List Int), L.Nodup → (∀ x ∈ L, 1 ≤ x ∧ x ≤ (n : Int)) → L.length ≤ n
  | 0, L, _, h => by
    cases L with
    | nil => simp
    | cons x L => have := h x List.mem_cons_self; omega
  | n + 1, L, hn, h => by
    by_cases hm : ((n : Int) + 1) ∈ L
    · have h1 := nod_len n (L.erase ((n : Int) + 1)) (hn.erase _) (fun x hx => by
        have h2 := (hn.mem_erase_iff).1 hx
        have h3 := h x h2.2
        have h4 := h2.1
        omega)
      rw [List.length_erase_of_mem hm] at h1
      omega
    · have h1 := nod_len n L hn (fun x hx => by
        have h3 := h x hx
        have h4 : x ≠ (n : Int) + 1 := fun e => hm (e ▸ hx)
        omega)
      omega
theorem right_size {nodes : Int} {l : List Pt} (h : chp.Right nodes (l.map pv)) : l.length ≤ 5 ∧ ∀ p ∈ l, p.vs.length ≤ 16 := by
  refine ⟨?_, fun p hp => ?_⟩
  · have hn : (l.map pv).Pairwise (fun a b => a.node ≠ b.node) := h.2.2
    have h1 : ((l.map pv).map chp.Pr.node).Nodup := List.pairwise_map.2 hn
    have h3 := nod_len 5 _ h1 (fun x hx => by
      obtain ⟨q, hq, rfl⟩ := List.mem_map.1 hx
      have := (prOk_iff.1 (h.2.1 q hq)).1
      have h5 := h.1
      omega)
    simpa using h3
  · have := (prOk_iff.1 (h.2.1 (pv p) (List.mem_map_of_mem hp))).2.1
    simpa [pv] using this
/-- The state of the document's search for the greatest ballot: the entry and the ballot in their blocks. -/
structure Bst (base eb bb : Nat) (s : Int) (st : Int × Int × List Nat) (W : World) : Prop where
  ex : ∃ a c, W.heap[eb]? = some (.cells #[.int .i64 s, .slice a st.2.2.length c] 39 (0, 0)) ∧ W.ownsRow base 5 1 (.slice a st.2.2.length c) st.2.2.length (bcells st.2.2)
  best : W.heap[bb]? = some (.cells #[.int .i64 st.1, .int .i64 st.2.1] 43 (0, 0))
  len : st.2.2.length ≤ 140737488355328
theorem Bst.below {base eb bb : Nat} {s : Int} {st : Int × Int × List Nat} {W W' : World} (h : Bst base eb bb s st W) (hb : Below W.heap.size W W') : Bst base eb bb s st W' := by
  obtain ⟨⟨a, c, h1, h2⟩, h3, h4⟩ := h
  exact ⟨⟨a, c, hp_step h1 hb, own_below h2 hb⟩, hp_step h3 hb, h4⟩

theorem ropen_form (w : World) (nodes from_ : Int) (a : Option Addr) (c : Nat) (l : List Pt) (h : RowP w a l) (hr : rightB nodes (l.map pv) = false) :
    Calls Try.prog 9 #[.int .i64 nodes, .int .i64 from_, .slice a l.length c] w fun e w' => e = .returned (.tuple #[.slice none 0 0, .int .i64 21]) ∧ Below w.heap.size w w' := by
  have HR := Lib.hid (rright_ok w nodes a c l h)
  rw [hr] at HR
  clear h hr
  go_enter Try.func9, Try.ntmps9
  go_wp2_with fail
  refine HR.out.mono ?_; rintro e w1 ⟨rfl, hb1⟩
  go_wp2_with fail
  exact bodyPost_ret (v := .tuple #[.slice none 0 0, .int .i64 21]) (by simp [results, Try.results9, go_sem]) rfl ⟨rfl, hb1⟩

theorem right_of {nodes : Int} {l : List chp.Pr} (h : rightB nodes l = true) : chp.Right nodes l := of_decide_eq_true h
theorem right_no {nodes : Int} {l : List chp.Pr} (h : rightB nodes l = false) : ¬ chp.Right nodes l := of_decide_eq_false h
theorem ropen_arg (w : World) (nodes from_ : Int) (a : Option Addr) (c : Nat) (l : List Pt) (h : RowP w a l) (hr : rightB nodes (l.map pv) = true) (hf : from_ < 1 ∨ 1099511627776 < from_) :
    Calls Try.prog 9 #[.int .i64 nodes, .int .i64 from_, .slice a l.length c] w fun e w' => e = .returned (.tuple #[.slice none 0 0, .int .i64 1]) ∧ Below w.heap.size w w' := by
  have HR := Lib.hid (rright_ok w nodes a c l h)
  rw [hr] at HR
  clear h hr
  by_cases h1 : from_ < 1
  · have t1 : decide (from_ < 1) = true := decide_eq_true h1
    clear hf h1
    go_enter Try.func9, Try.ntmps9
    go_wp2_with fail
    refine HR.out.mono ?_; rintro e w1 ⟨rfl, hb1⟩
    go_wp2_with fail
    exact bodyPost_ret (v := .tuple #[.slice none 0 0, .int .i64 1]) (by simp [results, Try.results9, go_sem]) rfl ⟨rfl, hb1⟩
  · have t1 : decide (from_ < 1) = false := decide_eq_false h1
    have t2 : decide (1099511627776 < from_) = true := decide_eq_true (by omega)
    clear hf h1
    go_enter Try.func9, Try.ntmps9
    go_wp2_with fail
    refine HR.out.mono ?_; rintro e w1 ⟨rfl, hb1⟩
    go_wp2_with fail
    exact bodyPost_ret (v := .tuple #[.slice none 0 0, .int .i64 1]) (by simp [results, Try.results9, go_sem]) rfl ⟨rfl, hb1⟩
theorem ropen_few (w : World) (nodes from_ : Int) (a : Option Addr) (c : Nat) (l : List Pt) (h : RowP w a l) (hr : rightB nodes (l.map pv) = true) (hf : 1 ≤ from_ ∧ from_ ≤ 1099511627776) (hq : 2 * (l.length : Int) ≤ nodes) :
    Calls Try.prog 9 #[.int .i64 nodes, .int .i64 from_, .slice a l.length c] w fun e w' => e = .returned (.tuple #[.slice none 0 0, .int .i64 91]) ∧ Below w.heap.size w w' := by
  have HR := Lib.hid (rright_ok w nodes a c l h)
  rw [hr] at HR
  have hl5 := (right_size (right_of hr)).1
  have t1 : decide (from_ < 1) = false := decide_eq_false (by omega)
  have t2 : decide (1099511627776 < from_) = false := decide_eq_false (by omega)
  have hwr : IntKind.i64.wrap (2 * (l.length : Int)) = 2 * (l.length : Int) := IntWalk.i64_in _ (by omega)
  have t3 : decide (2 * (l.length : Int) ≤ nodes) = true := decide_eq_true hq
  clear h hr hf hq
  go_enter Try.func9, Try.ntmps9
  go_wp2_with fail
  refine HR.out.mono ?_; rintro e w1 ⟨rfl, hb1⟩
  go_wp2_with fail
  exact bodyPost_ret (v := .tuple #[.slice none 0 0, .int .i64 91]) (by simp [results, Try.results9, go_sem]) rfl ⟨rfl, hb1⟩
theorem top_range {l : List chp.Pr} {nodes : Int} (h : chp.Right nodes l) : 0 ≤ topL 0 l ∧ topL 0 l ≤ 1099511627776 := by
  obtain ⟨h1, h2, h3⟩ := topL_spec l 0
  refine ⟨h1, ?_⟩
  rcases h3 with h3 | ⟨p, hp, v, hv, h3⟩
  · omega
  · have := ((chp.lastOk_lt (prOk_iff.1 (h.2.1 p hp)).2.2).1 v hv).2.1
    omega
theorem ropen_far (w : World) (nodes from_ : Int) (a : Option Addr) (c : Nat) (l : List Pt) (h : RowP w a l) (hr : rightB nodes (l.map pv) = true) (hf : 1 ≤ from_ ∧ from_ ≤ 1099511627776) (hq : ¬ 2 * (l.length : Int) ≤ nodes) (hx : 1024 ≤ topL 0 (l.map pv) - from_) :
    Calls Try.prog 9 #[.int .i64 nodes, .int .i64 from_, .slice a l.length c] w fun e w' => e = .returned (.tuple #[.slice none 0 0, .int .i64 81]) ∧ Below w.heap.size w w' := by
  have HR := Lib.hid (rright_ok w nodes a c l h)
  have HG := Lib.hid (fun w1 (hb : Below w.heap.size w w1) => greatest_ok w1 a c l (h.below hb))
  rw [hr] at HR
  have hl5 := (right_size (right_of hr)).1
  have htr := top_range (right_of hr)
  obtain ⟨t, ht⟩ : ∃ t, t = topL 0 (l.map pv) := ⟨_, rfl⟩
  rw [← ht] at hx HG htr
  have t1 : decide (from_ < 1) = false := decide_eq_false (by omega)
  have t2 : decide (1099511627776 < from_) = false := decide_eq_false (by omega)
  have hwr : IntKind.i64.wrap (2 * (l.length : Int)) = 2 * (l.length : Int) := IntWalk.i64_in _ (by omega)
  have t3 : decide (2 * (l.length : Int) ≤ nodes) = false := decide_eq_false hq
  have hwr2 : IntKind.i64.wrap (t - from_) = t - from_ := IntWalk.i64_in _ (by omega)
  have t4 : decide (1024 ≤ t - from_) = true := decide_eq_true hx
  clear h hr hf hq hx ht
  go_enter Try.func9, Try.ntmps9
  go_wp2_with fail
  refine HR.out.mono ?_; rintro e w1 ⟨rfl, hb1⟩
  have HG2 := Lib.hid (HG.out w1 hb1)
  go_wp2_with fail
  refine HG2.out.mono ?_; rintro e w2 ⟨rfl, rfl⟩
  go_wp2_with fail
  exact bodyPost_ret (v := .tuple #[.slice none 0 0, .int .i64 81]) (by simp [results, Try.results9, go_sem]) rfl ⟨rfl, hb1⟩

theorem ropen_go (w : World) (nodes from_ : Int) (a : Option Addr) (c : Nat) (l : List Pt) (h : RowP w a l) (hr : rightB nodes (l.map pv) = true) (hf : 1 ≤ from_ ∧ from_ ≤ 1099511627776) (hq : ¬ 2 * (l.length : Int) ≤ nodes) (hx : ¬ 1024 ≤ topL 0 (l.map pv) - from_) :
    Calls Try.prog 9 #[.int .i64 nodes, .int .i64 from_, .slice a l.length c] w fun e w' => ∃ (a' : Option Addr) (c' : Nat) (es : List Et), e = .returned (.tuple #[.slice a' es.length c', .int .i64 0]) ∧ OutE w w' a' c' es (ents (l.map pv) from_ (openN from_ (l.map pv))) ∧ Below w.heap.size w w' := by
  obtain ⟨j0, hj, hy0, hy1, hy2⟩ := info_parts infoEntry
  obtain ⟨i0, hi, hz0, hz1, hz2⟩ := info_parts infoByte
  have HR := Lib.hid (rright_ok w nodes a c l h)
  have HG := Lib.hid (fun w1 (hb : Below w.heap.size w w1) => greatest_ok w1 a c l (h.below hb))
  rw [hr] at HR
  have hl5 := (right_size (right_of hr)).1
  have H16 := Lib.hid (right_size (right_of hr)).2
  have htr := top_range (right_of hr)
  obtain ⟨t, ht⟩ : ∃ t, t = topL 0 (l.map pv) := ⟨_, rfl⟩
  have hopn : openN from_ (l.map pv) = (t - from_ + 1).toNat := by rw [ht]; rfl
  rw [hopn]
  rw [← ht] at hx HG htr
  have t1 : decide (from_ < 1) = false := decide_eq_false (by omega)
  have t2 : decide (1099511627776 < from_) = false := decide_eq_false (by omega)
  have hwr : IntKind.i64.wrap (2 * (l.length : Int)) = 2 * (l.length : Int) := IntWalk.i64_in _ (by omega)
  have t3 : decide (2 * (l.length : Int) ≤ nodes) = false := decide_eq_false hq
  have hwr2 : IntKind.i64.wrap (t - from_) = t - from_ := IntWalk.i64_in _ (by omega)
  have t4 : decide (1024 ≤ t - from_) = false := decide_eq_false hx
  obtain ⟨n, hn⟩ : ∃ n, n = (t - from_ + 1).toNat := ⟨_, rfl⟩
  rw [← hn]
  have hn1024 : n ≤ 1024 := by omega
  have HN := Lib.hid (show ∀ k : Nat, k < n ↔ from_ + k ≤ t from fun k => by omega)
  have HNT := Lib.hid (show n = 0 ∨ from_ + n ≤ t + 1 from by omega)
  obtain ⟨L, hL⟩ : ∃ L, L = l.map pv := ⟨_, rfl⟩
  rw [← hL]
  have HL := Lib.hid hL
  have HH := Lib.hid (fun (wr : World) (hb : Below w.heap.size w wr) => h.below hb)
  clear h hr hq hx ht hopn hn hL
  go_enter Try.func9, Try.ntmps9
  go_wp2_with fail
  refine HR.out.mono ?_; rintro e w1 ⟨rfl, hb1⟩
  have HG2 := Lib.hid (HG.out w1 hb1)
  have HB1 := Lib.hid hb1
  clear hb1
  go_wp2_with fail
  refine HG2.out.mono ?_; rintro e w2 ⟨rfl, rfl⟩
  clear HR HG HG2
  go_wp2_with fail
  go_loopw [9, 10] (fun o s wr => ∃ k : Nat, k ≤ n ∧ s = .int .i64 (from_ + k) ∧ Hid (∃ a c es, o = .slice a es.length c ∧ OutE w wr a c es (ents L from_ k)) ∧ Hid (Below w.heap.size w wr)) (fun _ s _ => (t + 1 - intOf s).toNat)
  case atStart => exact ⟨0, Nat.zero_le _, by simp, ⟨none, 0, [], rfl, outE_nil _ _⟩, HB1.out⟩
  case round =>
    obtain ⟨k, hk, rfl, HO, HB⟩ := hrel
    by_cases hlt : k < n
    · have hle : from_ + (k : Int) ≤ t := (HN.out k).1 hlt
      have t5 : decide (from_ + (k : Int) ≤ t) = true := decide_eq_true hle
      obtain ⟨s, hs⟩ : ∃ s, s = from_ + (k : Int) := ⟨_, rfl⟩
      rw [← hs] at hle t5 ⊢
      obtain ⟨ao, co, es, rfl, hO⟩ := HO.out
      have hel : es.length = k := by rw [hO.size, ents_len]
      have HOE := Lib.hid hO
      have HEL := Lib.hid hel
      have HS := Lib.hid hs
      have hnz := new2 wr (.cells #[.int .i64 s, .slice none 0 0] 39) (.cells #[.int .i64 0, .int .i64 0] 43)
      have hb2 := below_new2 wr (.cells #[.int .i64 s, .slice none 0 0] 39) (.cells #[.int .i64 0, .int .i64 0] 43)
      obtain ⟨w2, hw2⟩ : ∃ w2 : World, w2 = (wr.alloc (.cells #[.int .i64 s, .slice none 0 0] 39)).alloc (.cells #[.int .i64 0, .int .i64 0] 43) := ⟨_, rfl⟩
      rw [← hw2] at hnz hb2
      obtain ⟨n0, n1, hsz2⟩ := hnz
      have HF := Lib.hid (for_ok w2 s a c l (HH.out w2 (below_step HB.out hb2)) hl5 H16.out)
      have HB2 := Lib.hid hb2
      have HN0 := Lib.hid n0
      have HN1 := Lib.hid n1
      have HW2 := Lib.hid hw2
      have HSZ2 := Lib.hid hsz2
      have hsl : -9223372036854775808 ≤ s ∧ s ≤ 9223372036854775806 := by omega
      clear hO hel hs HO hb2 n0 n1 hw2 hsz2
      go_wp2_with fail
      rw [← HW2.out]
      refine HF.out.mono ?_; rintro e w3 ⟨a3, c3, cs, rfl, hrk, hdat, hc400, hmem, hb3⟩
      have HDAT := Lib.hid (show cs.map cvv = chp.forS L s by rw [HL.out]; exact hdat)
      have HRK := Lib.hid hrk.row
      have HMEM := Lib.hid hmem
      have HB3 := Lib.hid (below_step HB2.out hb3)
      have HST : Hid (Bst w.heap.size wr.heap.size (wr.heap.size + 1) s (0, 0, []) w3) := ⟨⟨none, 0, hp_step HN0.out hb3, World.ownsRow_nil _ _ _ _⟩, hp_step HN1.out hb3, by simp⟩
      have HLO : Hid (w.heap.size ≤ wr.heap.size) := HB.out.size
      obtain ⟨eb, heb⟩ : ∃ eb, eb = wr.heap.size := ⟨_, rfl⟩
      rw [← heb] at HST ⊢
      have HEB := Lib.hid heb
      clear hrk hdat hmem hb3 HF HN0 HN1 heb
      go_wp2_with fail
      go_loopw [14] (fun j wi => ∃ m : Nat, m ≤ cs.length ∧ j = .int .i64 m ∧ Hid (Bst w.heap.size eb (eb + 1) s (((cs.take m).map cvv).foldl chp.stp (0, 0, [])) wi) ∧ Hid (Below wr.heap.size wr wi) ∧ Hid (wi.ownsRow w2.heap.size 47 5 (.slice a3 cs.length c3) cs.length (cs.flatMap ccells))) (fun j _ => cs.length - (intOf j).toNat)
      case atStart => exact ⟨0, Nat.zero_le _, rfl, HST, HB3, HRK⟩
      case round =>
        obtain ⟨wi, rfl⟩ : ∃ wi : World, wi = wr := ⟨_, rfl⟩
        obtain ⟨m, hm, rfl, HSI, HBI, HRI⟩ := hrel
        have hBw := below_step HB.out HBI.out
        have hRK : RowK wi w2.heap.size 47 a3 c3 cs := ⟨HRI.out, fun x hx => by
          obtain ⟨p, hp, hv⟩ := HMEM.out x hx
          exact ((HH.out wi hBw).good p hp).row.good _ hv⟩
        by_cases hmt : m < cs.length
        · obtain ⟨g, rfl, hgz, hmx, x0, x1, x2, x3, x4⟩ := hRK.cells hmt
          have hrd := hRK.rd _ (List.getElem_mem hmt)
          have hst : ((cs.take (m + 1)).map cvv).foldl chp.stp (0, 0, []) = chp.stp (((cs.take m).map cvv).foldl chp.stp (0, 0, [])) (cvv cs[m]) := by
            rw [List.take_succ_eq_append_getElem hmt, List.map_append, List.foldl_append]; rfl
          obtain ⟨x, hx⟩ : ∃ x, x = cs[m] := ⟨_, rfl⟩
          rw [← hx] at x0 x1 x2 x3 x4 hrd hst
          have hmx := HMEM.out _ (List.getElem_mem hmt)
          rw [← hx] at hmx
          obtain ⟨xn, xv⟩ := x
          dsimp only at x0 x1 x2 x3 x4 hrd hmx
          have HMX := Lib.hid hmx
          obtain ⟨st, hst0⟩ : ∃ st, st = ((cs.take m).map cvv).foldl chp.stp (0, 0, []) := ⟨_, rfl⟩
          rw [← hst0] at hst HSI
          obtain ⟨br, bn, bd⟩ := st
          have hstp : chp.stp (br, bn, bd) (cvv (xn, xv)) = if bal.lessB br bn xv.r xv.n then (xv.r, xv.n, xv.l) else (br, bn, bd) := rfl
          rw [hstp] at hst
          have HST2 := Lib.hid hst
          obtain ⟨⟨ae, ce, he1, hbody⟩, hbest, hbdl⟩ := HSI.out
          obtain ⟨p0, p1, f0, f1, pz⟩ := blk2 hbest
          have HE1 := Lib.hid he1
          have HBODY := Lib.hid hbody
          have HBEST := Lib.hid hbest
          have hBd := below_step HBI.out (below_drewN (Below.refl _ wi) 1)
          have HLE := Lib.hid (refLess_any br bn xv.r xv.n wi.drew)
          have HBd := Lib.hid hBd
          have hcl : cs.length ≤ 9223372036854775807 := by omega
          have hgz' : g < wi.drew.heap.size := hgz
          have HRD := Lib.hid hrd
          clear hmx hRK hx hst hst0 hstp he1 hbody hbest hBd hrd
          go_wp2_with fail
          go_still_tail 7, (by kernel_rfl)
          change wpList _ _ _ _ _ wi.drew
          go_wp2_with fail
          cases hlb : bal.lessB br bn xv.r xv.n with
          | false =>
            rw [hlb] at HLE HST2
            clear hlb
            refine HLE.out.mono ?_; rintro e w4 ⟨rfl, hb4⟩
            have HB4 := Lib.hid (below_step HBd.out hb4)
            have hb4i : Below wi.heap.size wi w4 := below_step (below_drewN (Below.refl _ wi) 1) hb4
            have HR4 := Lib.hid (own_below HRI.out hb4i)
            have HS4 : Hid (Bst w.heap.size eb (eb + 1) s (((cs.take (m + 1)).map cvv).foldl chp.stp (0, 0, [])) w4) := by
              simp only [Hid]
              rw [HST2.out]
              exact Bst.below ⟨⟨ae, ce, HE1.out, HBODY.out⟩, HBEST.out, hbdl⟩ hb4i
            clear hb4 hb4i
            go_wp2_with fail
            go_roundw
            case rel => exact ⟨m + 1, by omega, by go_num, HS4, HB4, HR4⟩
            case measure => simp [intOf]; omega
          | true =>
            rw [hlb] at HLE HST2
            clear hlb
            refine HLE.out.mono ?_; rintro e w4 ⟨rfl, hb4⟩
            have HB4 := Lib.hid (below_step HBd.out hb4)
            have hb4i : Below wi.heap.size wi w4 := below_step (below_drewN (Below.refl _ wi) 1) hb4
            have HR4 := Lib.hid (own_below HRI.out hb4i)
            have hst4 : Bst w.heap.size eb (eb + 1) s (br, bn, bd) w4 := Bst.below ⟨⟨ae, ce, HE1.out, HBODY.out⟩, HBEST.out, hbdl⟩ hb4i
            obtain ⟨⟨ae4, ce4, he4, -⟩, hbest4, -⟩ := hst4
            have hRK4 : RowK w4 w2.heap.size 47 (some ⟨g, 0, none⟩) c3 cs := ⟨HR4.out, fun x hx => by
              obtain ⟨p, hp, hv⟩ := HMEM.out x hx
              exact ((HH.out w4 (below_step HB.out HB4.out)).good p hp).row.good _ hv⟩
            have hgz4 : g < w4.heap.size := (own_from HR4.out g rfl).2
            have z0 := cell_step x0 hb4i
            have z1 := cell_step x1 hb4i
            have z2 := cell_step x2 hb4i
            have z3 := cell_step x3 hb4i
            have z4 := cell_step x4 hb4i
            obtain ⟨q0, q1, fq0, fq1, qz⟩ := blk2 hbest4
            have hgb : g ≠ eb + 1 := own_ne HR4.out hbest4 (by decide) g rfl
            have hge : g ≠ eb := own_ne HR4.out he4 (by decide) g rfl
            obtain ⟨w5, hw5⟩ : ∃ w5, w5 = put2 w4 (eb + 1) (.int .i64 xv.r) (.int .i64 xv.n) := ⟨_, rfl⟩
            have HW5 := Lib.hid hw5
            have HE4 := Lib.hid he4
            have HBT4 := Lib.hid hbest4
            have hgb' : (g == eb + 1) = false := by simpa using hgb
            clear hb4 hb4i hRK4 x0 x1 x2 x3 x4 p0 p1 f0 f1 pz hbest4 he4 hw5
            go_upto_region 22 with fail
            rw [show (w4.setCell ⟨eb + 1, 0, none⟩ (.int .i64 xv.r)).setCell ⟨eb + 1, 1, none⟩ (.int .i64 xv.n) = w5 from HW5.out.symm]
            have hcell5 : ∀ o, w5.cell? ⟨g, o, none⟩ = w4.cell? ⟨g, o, none⟩ := fun o => World.cell?_of_block (a := ⟨g, o, none⟩) (by rw [HW5.out]; exact put2_ne hgb)
            have y4 : w5.cell? ⟨g, m * 5 + 4, none⟩ = some (.slice xv.a xv.l.length xv.c) := (hcell5 _).trans z4
            have hgz5 : g < w5.heap.size := by rw [HW5.out, put2_size]; exact hgz4
            have he5 : w5.heap[eb]? = some (.cells #[.int .i64 s, .slice ae4 bd.length ce4] 39 (0, 0)) := by rw [HW5.out]; exact (put2_ne (by omega)).trans HE4.out
            have hbt5 : w5.heap[eb + 1]? = some (.cells #[.int .i64 xv.r, .int .i64 xv.n] 43 (0, 0)) := by rw [HW5.out]; exact put2_at HBT4.out
            have hb5 : Below wr.heap.size wr w5 := by rw [HW5.out]; exact put2_below HB4.out (by have := HEB.out; omega) _ _
            have hr5 : w5.ownsRow w2.heap.size 47 5 (.slice (some ⟨g, 0, none⟩) cs.length c3) cs.length (cs.flatMap ccells) := own_kept HR4.out (fun g' hg' => by
              simp only [Option.some.injEq, Addr.mk.injEq, and_true] at hg'
              subst hg'
              rw [HW5.out]; exact put2_ne hgb)
            have hrd5 : Rd w5 xv := by
              obtain ⟨p, hp, hv⟩ := HMX.out
              exact ((HH.out w5 (below_step HB.out hb5)).good p hp).row.good _ hv
            have HNIL := Lib.hid hrd5.nil
            have HLIE := Lib.hid hrd5.lie
            have hxl := hrd5.len
            have HE5 := Lib.hid he5
            have HBT5 := Lib.hid hbt5
            have HB5 := Lib.hid hb5
            have HR5 := Lib.hid hr5
            have hebz := (kit.blk he5).2.2
            clear hcell5 he5 hbt5 hb5 hr5 hrd5 z0 z1 z2 z3 z4 q0 q1 fq0 fq1 qz
            go_wp2_with (at_builtin; refine wpl_append rfl _ _ 37 rfl w5.heap.size 5 i0 (.int .u8 0) 1 1 Try.underlying37 hi hz0 hz1 hz2 rfl (by decide) _ 0 [] rfl (World.ownsRow_nil _ _ _ _) xv.a xv.l.length xv.c (bcells xv.l) rfl HNIL.out (by rw [bcells_len]; simp) HLIE.out (bcells_one _) (by unfold maxLen; omega) (by omega) (Nat.le_refl _) ?_)
            intro v6 w6 hown6 hgr6
            try simp only [Nat.zero_add, List.nil_append] at hown6
            obtain ⟨a6, c6, rfl⟩ := own_shape hown6
            have hb6 : Below w5.heap.size w5 w6 := ⟨hgr6.os, hgr6.tape, hgr6.output, hgr6.size, fun j hj => hgr6.block j hj (by simp [Value.ownBlock])⟩
            have he6 := hp_step HE5.out hb6
            obtain ⟨w7, hw7⟩ : ∃ w7, w7 = w6.setCell ⟨eb, 1, none⟩ (.slice a6 xv.l.length c6) := ⟨_, rfl⟩
            have hb7 : Below wr.heap.size wr w7 := by rw [hw7]; exact (below_step HB5.out hb6).setCell (p := ⟨eb, 1, none⟩) (by have := HEB.out; show wr.heap.size ≤ eb; omega) _
            have hr7 : w7.ownsRow w2.heap.size 47 5 (.slice (some ⟨g, 0, none⟩) cs.length c3) cs.length (cs.flatMap ccells) := own_kept (own_below HR5.out hb6) (fun g' hg' => by
              simp only [Option.some.injEq, Addr.mk.injEq, and_true] at hg'
              subst hg'
              rw [hw7]; exact hp_set_ne (a := ⟨eb, 1, none⟩) hge)
            have hs7 : Bst w.heap.size eb (eb + 1) s (((cs.take (m + 1)).map cvv).foldl chp.stp (0, 0, [])) w7 := by
              rw [HST2.out]
              refine ⟨⟨a6, c6, by rw [hw7]; exact hp_set he6 1 _, ?_⟩, ?_, hxl⟩
              · rw [hw7]
                exact own_kept (own_mono hown6 (by have := HB5.out.size; have := HLO.out; omega)) (fun g' hg' => hp_set_ne (by have := (own_from hown6 g' hg').1; show g' ≠ eb; omega))
              · rw [hw7]
                exact (hp_set_ne (a := ⟨eb, 1, none⟩) (by show eb + 1 ≠ eb; omega)).trans (hp_step HBT5.out hb6)
            have HB7 := Lib.hid hb7
            have HR7 := Lib.hid hr7
            have HS7 := Lib.hid hs7
            have HW7 := Lib.hid hw7
            obtain ⟨u0, u1, fu0, fu1, uz⟩ := blk2 he6
            clear hown6 hgr6 hb6 he6 hw7 hb7 hr7 hs7
            go_upto_region 19 with fail
            rw [← HW7.out]
            clear u0 u1 fu0 fu1 uz
            go_wp2_with fail
            go_roundw
            case rel => exact ⟨m + 1, by omega, by go_num, HS7, HB7, HR7⟩
            case measure => simp [intOf]; omega
        · obtain rfl : m = cs.length := by omega
          have hfold : ((cs.take cs.length).map cvv).foldl chp.stp (0, 0, []) = (chp.forS L s).foldl chp.stp (0, 0, []) := by rw [List.take_length, HDAT.out]
          obtain ⟨st, hst0⟩ : ∃ st, st = ((cs.take cs.length).map cvv).foldl chp.stp (0, 0, []) := ⟨_, rfl⟩
          rw [← hst0] at HSI hfold
          have hval : valS L s = st.2.2 := by unfold valS; rw [← hfold]
          have hents := ents_snoc L from_ k
          rw [← HS.out, hval] at hents
          have HENT := Lib.hid hents
          obtain ⟨br, bn, bd⟩ := st
          obtain ⟨⟨ae, ce, he1, hbody⟩, -, hbdl⟩ := HSI.out
          dsimp only at he1 hbody hbdl HENT
          have hO := HOE.out.below HBI.out
          obtain ⟨p0, p1, f0, f1, pz⟩ := blk2 he1
          have hsz := hBw.size
          have hkl : es.length ≤ 1024 := by have := HEL.out; omega
          have HO5 := Lib.hid hO
          have HBODY := Lib.hid hbody
          have HBW := Lib.hid hBw
          clear hfold hst0 hval hents he1 hbody hO hRK hBw
          go_wp2_with (at_builtin; refine wpl_append rfl (.tmp 76) (.tmp 78) 24 rfl w.heap.size 39 j0 _ 2 32 Try.underlying24 hj hy0 hy1 hy2 rfl (by decide) _ es.length (es.flatMap Et.cells) rfl (HO5.out.own.row.alloc _) (some ⟨wi.heap.size, 0, none⟩) 1 1 [.int .i64 s, .slice ae bd.length ce] rfl (by simp) rfl (lie_new2 _ _ _ _) (by simp [Value.oneCell']) (by unfold maxLen; omega) (by omega) (by rw [size_new]; omega) ?_)
          intro v8 w8 hown hgr
          obtain ⟨a8, c8, rfl, hO8⟩ := OutE.step HO5.out HBODY.out hbdl hgr hown
          rw [← HENT.out] at hO8
          have HB8 : Hid (Below w.heap.size w w8) := (below_step HBW.out (below_new1 wi _)).grown hgr (by rw [size_new]; omega) (fun j hj => (HO5.out.own.row.lt j hj).1)
          have HO8 := Lib.hid hO8
          clear hown hgr hO8
          go_wp2_with fail
          go_roundw
          case rel => exact ⟨k + 1, by omega, by have := HS.out; go_num, ⟨a8, c8, _, rfl, HO8.out⟩, HB8⟩
          case measure => have := HS.out; simp [intOf]; omega
    · obtain rfl : k = n := by omega
      obtain ⟨ao, co, es, rfl, hO⟩ := HO.out
      have HOE := Lib.hid hO
      have hgt : ¬ from_ + (k : Int) ≤ t := fun e => hlt ((HN.out k).2 e)
      have t5 : decide (from_ + (k : Int) ≤ t) = false := decide_eq_false hgt
      clear hO HO
      go_wp2_with fail
      exact bodyPost_ret (v := .tuple #[.slice ao es.length co, .int .i64 0]) (by simp [results, Try.results9, go_sem]) rfl ⟨ao, co, es, rfl, HOE.out, HB.out⟩

/-- What an Open answers. -/
def OpenR (w : World) (nodes from_ : Int) (L : List chp.Pr) (e : Ending) (w' : World) : Prop :=
  ∃ (a' : Option Addr) (c' : Nat) (es : List Et), e = .returned (.tuple #[.slice a' es.length c', .int .i64 (openE nodes from_ L)]) ∧ OutE w w' a' c' es (openL nodes from_ L) ∧ Below w.heap.size w w'
theorem openR_err {w w' : World} {nodes from_ : Int} {L : List chp.Pr} {e : Ending} {x : Int} (h : e = .returned (.tuple #[.slice none 0 0, .int .i64 x]) ∧ Below w.heap.size w w') (hx : openE nodes from_ L = x) (h0 : x ≠ 0) : OpenR w nodes from_ L e w' := by
  refine ⟨none, 0, [], by rw [hx]; exact h.1, ?_, h.2⟩
  unfold openL
  rw [hx, if_neg h0]
  exact outE_nil _ _
theorem ropen_ok (w : World) (nodes from_ : Int) (a : Option Addr) (c : Nat) (l : List Pt) (h : RowP w a l) :
    Calls Try.prog 9 #[.int .i64 nodes, .int .i64 from_, .slice a l.length c] w (OpenR w nodes from_ (l.map pv)) := by
  cases hr : rightB nodes (l.map pv) with
  | false => exact (ropen_form w nodes from_ a c l h hr).mono fun e w' he => openR_err he (by unfold openE; rw [if_pos (right_no hr)]) (by decide)
  | true =>
    have hR := right_of hr
    by_cases hf : from_ < 1 ∨ 1099511627776 < from_
    · exact (ropen_arg w nodes from_ a c l h hr hf).mono fun e w' he => openR_err he (by unfold openE; rw [if_neg (fun hn => hn hR), if_pos hf]) (by decide)
    · have hf' : 1 ≤ from_ ∧ from_ ≤ 1099511627776 := by omega
      have hll : ((l.map pv).length : Int) = (l.length : Int) := by rw [List.length_map]
      by_cases hq : 2 * (l.length : Int) ≤ nodes
      · exact (ropen_few w nodes from_ a c l h hr hf' hq).mono fun e w' he => openR_err he (by unfold openE; rw [if_neg (fun hn => hn hR), if_neg hf, hll, if_pos hq]) (by decide)
      · by_cases hx : 1024 ≤ topL 0 (l.map pv) - from_
        · exact (ropen_far w nodes from_ a c l h hr hf' hq hx).mono fun e w' he => openR_err he (by unfold openE; rw [if_neg (fun hn => hn hR), if_neg hf, hll, if_neg hq, if_pos hx]) (by decide)
        · have he0 : openE nodes from_ (l.map pv) = 0 := by unfold openE; rw [if_neg (fun hn => hn hR), if_neg hf, hll, if_neg hq, if_neg hx]
          refine (ropen_go w nodes from_ a c l h hr hf' hq hx).mono ?_
          rintro e w' ⟨a', c', es, h1, h2, h3⟩
          exact ⟨a', c', es, by rw [he0]; exact h1, by unfold openL; rw [if_pos he0]; exact h2, h3⟩
end Go.Proofs.Ytodoncmielfbeaa.cho
