/-
  choose.Open.
-/
import Derived.Test.YtcaakiaenfkeaaaGreatN17
import Derived.Test.YtcaakiaenfkeaaaGreatN09
import Derived.Maps.RangeWalk
namespace Go.Proofs.YtcaakiaenfkeaaaGreat.chop
open Go.ChangeShapes Go.WideShapes Go.ChangeAt Go.RowKit
open Go.Maps (Keyed)
open Go.ChangeMaps Go.MapKept
open Go.Proofs.YtcaakiaenfkeaaaGreat.kit Go.Proofs.YtcaakiaenfkeaaaGreat.mapkit Go.Proofs.YtcaakiaenfkeaaaGreat.byt Go.Proofs.YtcaakiaenfkeaaaGreat.own Go.Proofs.YtcaakiaenfkeaaaGreat.accd Go.Proofs.YtcaakiaenfkeaaaGreat.chd Go.Proofs.YtcaakiaenfkeaaaGreat.chb Go.Proofs.YtcaakiaenfkeaaaGreat.chr Go.Proofs.YtcaakiaenfkeaaaGreat.che Go.Proofs.YtcaakiaenfkeaaaGreat.chf Go.Proofs.YtcaakiaenfkeaaaGreat.chq Go.Proofs.YtcaakiaenfkeaaaGreat.cho Go.Proofs.YtcaakiaenfkeaaaGreat.chc Go.Proofs.YtcaakiaenfkeaaaGreat.chk Go.Proofs.YtcaakiaenfkeaaaGreat.chbe
set_option linter.unusedVariables false
set_option linter.unusedSimpArgs false
set_option maxHeartbeats 2000000
set_option maxRecDepth 100000

theorem quorum_few {nodes : Int} {n : Nat} (h : 1 ≤ nodes ∧ nodes ≤ 5) : (n : Int) < nodes / 2 + 1 ↔ 2 * (n : Int) ≤ nodes := by omega
theorem open_form (w : World) (nodes from_ : Int) (a : Option Addr) (c : Nat) (l : List Pt) (h : RowP w a l) (hr : rightB nodes (l.map pv) = false) :
    Calls Tryz.prog 49 #[.int .i64 nodes, .int .i64 from_, .slice a l.length c] w fun e w' => e = .returned (.tuple #[.slice none 0 0, .int .i64 21]) ∧ Below w.heap.size w w' := by
  have HR := Lib.hid (right_ok w nodes a c l h)
  rw [hr] at HR
  clear h hr
  go_enter Tryz.func49, Tryz.ntmps49
  go_wp2_with fail
  refine HR.out.mono ?_; rintro e w1 ⟨rfl, hb1⟩
  go_wp2_with fail
  exact bodyPost_ret (v := .tuple #[.slice none 0 0, .int .i64 21]) (by simp [results, Tryz.results49, go_sem]) rfl ⟨rfl, hb1⟩
theorem open_arg (w : World) (nodes from_ : Int) (a : Option Addr) (c : Nat) (l : List Pt) (h : RowP w a l) (hr : rightB nodes (l.map pv) = true) (hf : from_ < 1 ∨ 1099511627776 < from_) :
    Calls Tryz.prog 49 #[.int .i64 nodes, .int .i64 from_, .slice a l.length c] w fun e w' => e = .returned (.tuple #[.slice none 0 0, .int .i64 1]) ∧ Below w.heap.size w w' := by
  have HR := Lib.hid (right_ok w nodes a c l h)
  rw [hr] at HR
  clear h hr
  by_cases h1 : from_ < 1
  · have t1 : decide (from_ < 1) = true := decide_eq_true h1
    clear hf h1
    go_enter Tryz.func49, Tryz.ntmps49
    go_wp2_with fail
    refine HR.out.mono ?_; rintro e w1 ⟨rfl, hb1⟩
    go_wp2_with fail
    exact bodyPost_ret (v := .tuple #[.slice none 0 0, .int .i64 1]) (by simp [results, Tryz.results49, go_sem]) rfl ⟨rfl, hb1⟩
  · have t1 : decide (from_ < 1) = false := decide_eq_false h1
    have t2 : decide (1099511627776 < from_) = true := decide_eq_true (by omega)
    clear hf h1
    go_enter Tryz.func49, Tryz.ntmps49
    go_wp2_with fail
    refine HR.out.mono ?_; rintro e w1 ⟨rfl, hb1⟩
    go_wp2_with fail
    exact bodyPost_ret (v := .tuple #[.slice none 0 0, .int .i64 1]) (by simp [results, Tryz.results49, go_sem]) rfl ⟨rfl, hb1⟩
theorem open_few (w : World) (nodes from_ : Int) (a : Option Addr) (c : Nat) (l : List Pt) (h : RowP w a l) (hr : rightB nodes (l.map pv) = true) (hf : 1 ≤ from_ ∧ from_ ≤ 1099511627776) (hq : 2 * (l.length : Int) ≤ nodes) :
    Calls Tryz.prog 49 #[.int .i64 nodes, .int .i64 from_, .slice a l.length c] w fun e w' => e = .returned (.tuple #[.slice none 0 0, .int .i64 91]) ∧ Below w.heap.size w w' := by
  have HR := Lib.hid (right_ok w nodes a c l h)
  rw [hr] at HR
  have hnod := (right_of hr).1
  have HQ := Lib.hid (fun W => quorum_any nodes hnod.1 hnod.2 W)
  have t1 : decide (from_ < 1) = false := decide_eq_false (by omega)
  have t2 : decide (1099511627776 < from_) = false := decide_eq_false (by omega)
  have t3 : decide ((l.length : Int) < nodes / 2 + 1) = true := decide_eq_true ((quorum_few hnod).2 hq)
  clear h hr hf hq hnod
  go_enter Tryz.func49, Tryz.ntmps49
  go_wp2_with fail
  refine HR.out.mono ?_; rintro e w1 ⟨rfl, hb1⟩
  go_wp2_with fail
  refine (HQ.out w1).mono ?_; rintro e w2 ⟨rfl, rfl⟩
  go_wp2_with fail
  exact bodyPost_ret (v := .tuple #[.slice none 0 0, .int .i64 91]) (by simp [results, Tryz.results49, go_sem]) rfl ⟨rfl, hb1⟩

/-- The greatest slot, from a place on. -/
theorem topL_max {L : List chp.Pr} {t : Int} (h : 0 ≤ t) : topL t L = if topL 0 L ≤ t then t else topL 0 L := by
  obtain ⟨h1, h2, h3⟩ := topL_spec L 0
  symm
  refine topL_eq (by split <;> omega) (fun p hp v hv => by have := h2 p hp v hv; split <;> omega) ?_
  split
  · exact .inl rfl
  · rcases h3 with h3 | h3
    · omega
    · exact .inr h3
theorem cut_slots {r l : List Pt} (hp : r.Perm l) (s : Int) : r.flatMap (atT s) ≠ [] ↔ ∃ p ∈ l.map pv, ∃ v ∈ p.vs, v.s = s := by
  constructor
  · intro h
    obtain ⟨x, hx⟩ := List.exists_mem_of_ne_nil _ h
    obtain ⟨p, hp', hx⟩ := List.mem_flatMap.1 hx
    obtain ⟨v, hv, rfl⟩ := List.mem_map.1 hx
    obtain ⟨hv1, hv2⟩ := List.mem_filter.1 hv
    exact ⟨pv p, List.mem_map_of_mem (hp.mem_iff.1 hp'), vv v, List.mem_map_of_mem hv1, of_decide_eq_true hv2⟩
  · rintro ⟨q, hq, v, hv, rfl⟩ h
    obtain ⟨p, hp', rfl⟩ := List.mem_map.1 hq
    obtain ⟨u, hu, rfl⟩ := List.mem_map.1 hv
    have : (p.node, u) ∈ r.flatMap (atT (vv u).s) := List.mem_flatMap.2 ⟨p, hp.mem_iff.2 hp', List.mem_map.2 ⟨u, List.mem_filter.2 ⟨hu, by simp [vv]⟩, rfl⟩⟩
    rw [h] at this
    simp at this
theorem cut_data {r l : List Pt} {nodes : Int} (hp : r.Perm l) (hs : r.Pairwise (fun p q => p.node < q.node)) (hr : chp.Right nodes (l.map pv)) (s : Int) : (r.flatMap (atT s)).map cvv = chp.forS (l.map pv) s := by
  have h1 : (l.map pv).Perm (r.map pv) := (hp.map pv).symm
  have h2 : (r.map pv).Pairwise (fun a b => a.node < b.node) := by rw [List.pairwise_map]; exact hs
  have h3 : ∀ p ∈ r.map pv, 1 ≤ p.node ∧ p.node ≤ 5 := by
    intro p hpm
    obtain ⟨q, hq, rfl⟩ := List.mem_map.1 hpm
    exact (right_pts hr).1 q (hp.mem_iff.1 hq)
  rw [chp.for_cut h1 h2 h3 s]
  unfold chp.cutS
  rw [chf.map_flat, chf.flat_map]
  exact chp.fm_congr (fun p _ => at_pv s p)
theorem best_val {cs : List Ct} {L : List chp.Pr} {nodes : Int} {s : Int} (hr : chp.Right nodes L) (h : cs.map cvv = chp.forS L s) : valS L s = (bestC cs).2.l := by
  have h1 := chp.best_doc (chp.forS L s) none (won_pos hr s)
  have h2 : (chp.forS L s).foldl chp.stp (0, 0, []) = chp.outB ((chp.forS L s).foldl chp.pick none) := h1
  unfold valS
  rw [h2, ← h]
  have h3 := pick_data cs none
  have h4 : (cs.map cvv).foldl chp.pick none = (cs.foldl pickC none).map cvv := h3.symm
  rw [h4]
  unfold bestC
  cases cs.foldl pickC none with
  | none => rfl
  | some x => rfl
theorem best_rd {w : World} {cs : List Ct} (h : ∀ x ∈ cs, Rd w x.2) : Rd w (bestC cs).2 := by
  unfold bestC
  cases h1 : cs.foldl pickC none with
  | none => exact ⟨.inl rfl, fun _ => ⟨rfl, rfl⟩, by simp [zeroC], by simp [zeroC, Byt], by simp [zeroC]⟩
  | some x =>
    rcases pick_mem cs none x h1 with h2 | h2
    · simp at h2
    · exact h x h2
theorem cast_rd {wx : World} {a : Option Addr} {r l : List Pt} (h : RowP wx a l) (hp : r.Perm l) (s : Int) : ∀ x ∈ r.flatMap (atT s), Rd wx x.2 := by
  intro x hx
  obtain ⟨p, hp', hx⟩ := List.mem_flatMap.1 hx
  exact at_rd (h.good p (hp.mem_iff.1 hp')) x hx

theorem open_go (w : World) (nodes from_ : Int) (a : Option Addr) (c : Nat) (l : List Pt) (h : RowP w a l) (hr : rightB nodes (l.map pv) = true) (hf : 1 ≤ from_ ∧ from_ ≤ 1099511627776) (hq : ¬ 2 * (l.length : Int) ≤ nodes) :
    Calls Tryz.prog 49 #[.int .i64 nodes, .int .i64 from_, .slice a l.length c] w (OpenR w nodes from_ (l.map pv)) := by
  obtain ⟨j0, hj, hy0, hy1, hy2⟩ := info_parts infoEntry
  have HR := Lib.hid (right_ok w nodes a c l h)
  rw [hr] at HR
  have hRt := right_of hr
  have HRT := Lib.hid hRt
  have hnod := hRt.1
  have HQ := Lib.hid (fun W => quorum_any nodes hnod.1 hnod.2 W)
  have HC := Lib.hid (fun w1 (hb : Below w.heap.size w w1) => cut_ok w1 nodes a c l (h.below hb) hRt)
  have t1 : decide (from_ < 1) = false := decide_eq_false (by omega)
  have t2 : decide (1099511627776 < from_) = false := decide_eq_false (by omega)
  have t3 : decide ((l.length : Int) < nodes / 2 + 1) = false := decide_eq_false (fun hh => hq ((quorum_few hnod).1 hh))
  have htop := top_range hRt
  have hsr := slots_range hRt (slots_of (l.map pv))
  have HSR : Hid (∀ p ∈ l.map pv, ∀ v ∈ p.vs, 1 ≤ v.s ∧ v.s ≤ 1099511627776) := fun p hp v hv => hsr _ (((slots_of _).2 _).2 ⟨p, hp, v, hv, rfl⟩)
  have HH := Lib.hid (fun (wr : World) (hb : Below w.heap.size w wr) => h.below hb)
  have HHQ := Lib.hid hq
  obtain ⟨L, hL⟩ : ∃ L, L = l.map pv := ⟨_, rfl⟩
  rw [← hL] at htop HRT HSR ⊢
  have HLL := Lib.hid hL
  clear h hr hRt hq hnod hsr hL
  go_enter Tryz.func49, Tryz.ntmps49
  go_wp2_with fail
  refine HR.out.mono ?_; rintro e w1 ⟨rfl, hb1⟩
  have HC1 := Lib.hid (HC.out w1 hb1)
  have HB1 := Lib.hid hb1
  clear hb1 HC HR
  go_wp2_with fail
  refine (HQ.out w1).mono ?_; rintro e w1' ⟨rfl, rfl⟩
  go_wp2_with fail
  refine HC1.out.mono ?_; rintro e w2 ⟨mb, r, rfl, hrp, hrs, hcut, hb2⟩
  have hb02 := below_step HB1.out hb2
  have HCUT := Lib.hid hcut
  obtain ⟨⟨f, cnt, V, hmap, hcn, hfV, hrows, hdist⟩, hmlo⟩ := hcut
  obtain ⟨D, hD1, hD2, hD3⟩ := hmap
  have HD1 := Lib.hid hD1
  have HD3 := Lib.hid hD3
  have HKEY : Hid (∀ s, (f (.int .i64 s)).isSome = true ↔ ∃ p ∈ L, ∃ v ∈ p.vs, v.s = s) := by
    rw [HLL.out]
    intro s
    rw [← cut_slots hrp s]
    constructor
    · intro hs e
      rw [((hfV s).1 e).1] at hs
      simp at hs
    · intro hs
      rw [(hfV s).2 hs]; rfl
  have HRP := Lib.hid hrp
  have HRS := Lib.hid hrs
  have HB2 := Lib.hid hb02
  have hmz := HCUT.out.lt
  clear HC1 hrp hrs hb2 hb02 hfV hrows hdist hD1 hD2 hD3
  go_wp2_with (at_range; refine Go.wpList_range_own _ rfl _ 138 rfl 3 144 keyedI Tryz.underlying138 _ mb _ D rfl HD1.out ?_)
  intro w3 hrg3 hg3 hs3
  have hb23 : Below w2.heap.size w2 w3 := ⟨hg3.os, hg3.tape, hg3.output, hg3.size, fun k hk => hg3.block k hk (by simp)⟩
  have HB3 := Lib.hid hb23
  have HRG3 := Lib.hid hrg3
  obtain ⟨rb, hrb⟩ : ∃ rb, rb = w2.heap.size := ⟨_, rfl⟩
  rw [← hrb] at HRG3 ⊢
  have HRB := Lib.hid hrb
  have hne : mb ≠ rb := by omega
  clear hrg3 hg3 hs3 hb23 hrb
  have hwf : IntKind.i64.wrap (from_ - 1) = from_ - 1 := IntWalk.i64_in _ (by omega)
  go_wp2_with fail
  go_loopw [9] (fun t wr => ∃ (T : Int) (left : Lit → Bool) (cn : Nat), t = .int .i64 T ∧ Hid (wr.ranges Tryz.prog 3 raw mb rb cnt D left cn) ∧ Hid (Below w2.heap.size w2 wr) ∧ (from_ - 1 ≤ T ∧ T ≤ 1099511627776) ∧ Hid ((∀ s, (f (.int .i64 s)).isSome = true → s ≤ T ∨ left (.int .i64 s) = true) ∧ (T = from_ - 1 ∨ ∃ p ∈ L, ∃ v ∈ p.vs, v.s = T))) (fun _ wr => wr.rangeLeft mb rb)
  case atStart => exact ⟨from_ - 1, _, _, rfl, HRG3, HB3, by omega, fun s hs => .inr (by rw [HD3.out.has]; exact hs), .inl rfl⟩
  case round =>
    obtain ⟨T, left, cn, rfl, HRG, HB, hT, HI⟩ := hrel
    go_wp2_with (at_next; refine Go.wpList_next_ranges _ rfl _ rfl 3 keyedI raw (fun x : Int => Value.int .i64 x) (fun v : Value => v) (fun key kl hk => by obtain ⟨x, e, _⟩ := Maps.keyOf_int_inv Tryz.underlying3 hk; exact ⟨x, e⟩) (fun v y _ => ⟨v, rfl⟩) mb rb cnt D left cn rfl HRG.out ?_ ?_)
    · intro _ hleft
      have hTe : T = topL (from_ - 1) L := by
        refine topL_eq hT.1 (fun p hp v hv => ?_) HI.out.2
        rcases HI.out.1 v.s ((HKEY.out v.s).2 ⟨p, hp, v, hv, rfl⟩) with h1 | h1
        · exact h1
        · rw [hleft] at h1; simp at h1
      have hTm := topL_max (L := L) (t := from_ - 1) (by omega)
      rw [← hTe] at hTm
      have hwf2 : IntKind.i64.wrap (from_ + 1024) = from_ + 1024 := IntWalk.i64_in _ (by omega)
      have hopn : openN from_ L = (T - from_ + 1).toNat := by unfold openN; split at hTm <;> omega
      have hfar : 1024 ≤ topL 0 L - from_ ↔ from_ + 1024 ≤ T := by split at hTm <;> omega
      have hB04 : Below w.heap.size w wr := HB2.out.trans (HB.out.mono HB2.out.size)
      have HB04 := Lib.hid hB04
      have hoE : openE nodes from_ L = if 1024 ≤ topL 0 L - from_ then 81 else 0 := by
        unfold openE
        rw [if_neg (fun hn => hn HRT.out), if_neg (by omega), if_neg (by rw [HLL.out, List.length_map]; have := HHQ.out; omega)]
      have HOE := Lib.hid hoE
      have HOPN := Lib.hid hopn
      clear hTe hTm hopn hB04 hoE hleft
      by_cases hx : from_ + 1024 ≤ T
      · have t4 : decide (from_ + 1024 ≤ T) = true := decide_eq_true hx
        have HE : Hid (openE nodes from_ L = 81) := by simp only [Hid]; rw [HOE.out, if_pos (hfar.2 hx)]
        clear hx hfar
        go_wp2_with fail
        exact bodyPost_ret (v := .tuple #[.slice none 0 0, .int .i64 81]) (by simp [results, Tryz.results49, go_sem]) rfl (openR_err ⟨rfl, HB04.out⟩ HE.out (by decide))
      · have t4 : decide (from_ + 1024 ≤ T) = false := decide_eq_false hx
        have HE : Hid (openE nodes from_ L = 0) := by simp only [Hid]; rw [HOE.out, if_neg (fun h => hx (hfar.1 h))]
        have HCUT4 := Lib.hid (HCUT.out.below HB.out)
        clear hfar HRG HI HCUT
        obtain ⟨n, hn⟩ : ∃ n, n = (T - from_ + 1).toNat := ⟨_, rfl⟩
        have hn1024 : n ≤ 1024 := by omega
        have HN := Lib.hid (show ∀ k : Nat, k < n ↔ from_ + k ≤ T from fun k => by omega)
        have HON : Hid (openN from_ L = n) := by simp only [Hid]; rw [HOPN.out, hn]
        have HTT : Hid (wr = wr) := rfl
        clear hx hn
        go_wp2_with fail
        go_loopw [11, 12] (fun o s wo => ∃ k : Nat, k ≤ n ∧ s = .int .i64 (from_ + k) ∧ Hid (∃ a c es, o = .slice a es.length c ∧ OutE wr wo a c es (ents L from_ k)) ∧ Hid (Below wr.heap.size wr wo)) (fun _ s _ => (T + 1 - intOf s).toNat)
        case atStart => exact ⟨0, Nat.zero_le _, by simp, ⟨none, 0, [], rfl, outE_nil _ _⟩, Below.refl _ _⟩
        case round =>
          obtain ⟨wo, rfl⟩ : ∃ wo : World, wo = wr := ⟨_, rfl⟩
          obtain ⟨k, hk, rfl, HO, HBO⟩ := hrel
          by_cases hlt : k < n
          · have hle : from_ + (k : Int) ≤ T := (HN.out k).1 hlt
            have t5 : decide (from_ + (k : Int) ≤ T) = true := decide_eq_true hle
            obtain ⟨s, hs⟩ : ∃ s, s = from_ + (k : Int) := ⟨_, rfl⟩
            rw [← hs] at hle t5 ⊢
            obtain ⟨ao, co, es, rfl, hO⟩ := HO.out
            have hel : es.length = k := by rw [hO.size, ents_len]
            have hBo : Below w.heap.size w wo := below_step HB04.out HBO.out
            have hcuto := HCUT4.out.below HBO.out
            obtain ⟨a1, c1, hrow1, hlk⟩ := hcuto.look (s := s) (by omega) (by omega)
            have hlk0 := hlk wo rfl
            have hdat : (r.flatMap (atT s)).map cvv = chp.forS L s := by rw [HLL.out]; exact cut_data HRP.out HRS.out (by rw [← HLL.out]; exact HRT.out) s
            have hval := best_val HRT.out hdat
            have hrds := cast_rd (HH.out wo hBo) HRP.out s
            have hcl : (r.flatMap (atT s)).length ≤ 1000 := by
              have h1 := congrArg List.length hdat
              rw [List.length_map] at h1
              have h2 := right_size (l := l) (nodes := nodes) (by rw [← HLL.out]; exact HRT.out)
              have h3 := inN_len (slot := s) (n := 5) h2.1 h2.2
              have h4 := congrArg List.length (inN_data s l)
              rw [List.length_map, ← HLL.out] at h4
              omega
            obtain ⟨cs, hcs⟩ : ∃ cs, cs = r.flatMap (atT s) := ⟨_, rfl⟩
            rw [← hcs] at hrow1 hlk0 hdat hval hrds hcl
            have HBE := Lib.hid (bestOpen_ok wo w1.heap.size c1 a1 cs ⟨hrow1, hrds⟩ hcl)
            have hbr := best_rd hrds
            obtain ⟨b, hb⟩ : ∃ b, b = bestC cs := ⟨_, rfl⟩
            rw [← hb] at HBE hbr hval
            have HVAL := Lib.hid hval
            have HBR := Lib.hid hbr
            have HOE2 := Lib.hid hO
            have HEL := Lib.hid hel
            have HS := Lib.hid hs
            have HBo := Lib.hid hBo
            have hsl : -9223372036854775808 ≤ s ∧ s ≤ 9223372036854775806 := by omega
            clear hO hel hs HO hBo hcuto hrow1 hlk hdat hval hrds hcl hcs hbr hb
            go_wp2_with fail
            refine HBE.out.mono ?_; rintro e w5 ⟨rfl, hb5⟩
            obtain ⟨w6, hw6⟩ : ∃ w6, w6 = w5.alloc (.cells #[.int .i64 b.1, .int .i64 b.2.s, .int .i64 b.2.r, .int .i64 b.2.n, .slice b.2.a b.2.l.length b.2.c] 141) := ⟨_, rfl⟩
            have hn6 : w6.heap[w5.heap.size]? = some (.cells #[.int .i64 b.1, .int .i64 b.2.s, .int .i64 b.2.r, .int .i64 b.2.n, .slice b.2.a b.2.l.length b.2.c] 141 (0, 0)) := by rw [hw6]; exact hp_alloc_new _ _
            have hb6 : Below wo.heap.size wo w6 := by rw [hw6]; exact below_step hb5 (below_new1 _ _)
            obtain ⟨cb, hcb⟩ : ∃ cb, cb = w5.heap.size := ⟨_, rfl⟩
            rw [← hcb] at hn6
            obtain ⟨y0, y1, y2, y3, y4, yz⟩ := blk5 hn6
            have HCL := Lib.hid (clone_any b.2.l b.2.a b.2.c w6 HBR.out.len HBR.out.nil (HBR.out.lie.below hb6))
            have HB6 := Lib.hid hb6
            have HW6 := Lib.hid hw6
            have HCB := Lib.hid hcb
            clear hn6 hb6 hw6 hcb hb5 HBE
            go_upto_region 20 with fail
            rw [← HW6.out, ← HCB.out]
            go_wp2_with fail
            refine HCL.out.mono ?_; rintro e w7 ⟨v7, rfl, hown7, hb7⟩
            obtain ⟨a7, c7, rfl⟩ := own_shape hown7
            have hB07 := below_step HBo.out (below_step HB6.out hb7)
            have HO7 := Lib.hid (HOE2.out.below (below_step HB6.out hb7))
            have HBODY := Lib.hid (own_mono hown7 (show wr.heap.size ≤ w6.heap.size from (below_step HBO.out HB6.out).size))
            have HB07 := Lib.hid hB07
            have HBO7 := Lib.hid (below_step HBO.out (below_step HB6.out hb7))
            have hsz7 : wr.heap.size ≤ w7.heap.size := (below_step HBO.out (below_step HB6.out hb7)).size
            have hkl : es.length ≤ 1024 := by have := HEL.out; omega
            have hbl := HBR.out.len
            have hents := ents_snoc L from_ k
            rw [← HS.out, HVAL.out] at hents
            have HENT := Lib.hid hents
            clear hown7 hb7 hB07 hents HCL y0 y1 y2 y3 y4 yz
            go_wp2_with (at_builtin; refine wpl_append rfl (.tmp 60) (.tmp 67) 31 rfl wr.heap.size 47 j0 _ 2 32 Tryz.underlying31 hj hy0 hy1 hy2 rfl (by decide) _ es.length (es.flatMap Et.cells) rfl (HO7.out.own.row.alloc _) (some ⟨w7.heap.size, 0, none⟩) 1 1 [.int .i64 s, .slice a7 b.2.l.length c7] rfl (by simp) rfl (cho.lie_new2 _ _ _ _) (by simp [Value.oneCell']) (by unfold maxLen; omega) (by omega) (by rw [size_new]; omega) ?_)
            intro v8 w8 hown hgr
            obtain ⟨a8, c8, rfl, hO8⟩ := OutE.step HO7.out HBODY.out hbl hgr hown
            rw [← HENT.out] at hO8
            have HB8 : Hid (Below wr.heap.size wr w8) := (below_step HBO7.out (below_new1 w7 _)).grown hgr (by rw [size_new]; have := HBO7.out.size; omega) (fun j hj => (HO7.out.own.row.lt j hj).1)
            have HO8 := Lib.hid hO8
            clear hown hgr hO8
            go_wp2_with fail
            go_roundw
            case rel => exact ⟨k + 1, by omega, by have := HS.out; go_num, ⟨a8, c8, _, rfl, HO8.out⟩, HB8⟩
            case measure => have := HS.out; simp [intOf]; omega
          · obtain rfl : k = n := by omega
            obtain ⟨ao, co, es, rfl, hO⟩ := HO.out
            have HOO := Lib.hid hO
            have hgt : ¬ from_ + (k : Int) ≤ T := fun e => hlt ((HN.out k).2 e)
            have t5 : decide (from_ + (k : Int) ≤ T) = false := decide_eq_false hgt
            clear hO HO
            go_wp2_with fail
            exact bodyPost_ret (v := .tuple #[.slice ao es.length co, .int .i64 0]) (by simp [results, Tryz.results49, go_sem]) rfl ⟨ao, co, es, by rw [HE.out], by unfold openL; rw [if_pos HE.out, HON.out]; exact ⟨HOO.out.own.mono HB04.out.size, HOO.out.data, HOO.out.len⟩, below_step HB04.out HBO.out⟩
    · intro x c0 kl yd yp w4 cn4 hkl hlk hrw hat hrg4 hcl hg4 hs4 hen
      obtain rfl : kl = .int .i64 x := by
        obtain ⟨x', e1, e2, _⟩ := Maps.keyOf_int_inv Tryz.underlying3 hkl
        simp only [Value.int.injEq, true_and] at e1
        rw [e2, e1]
      have hfs : (f (.int .i64 x)).isSome = true := by
        have h1 := HD3.out (.int .i64 x)
        have h2 := Maps.has_true_of_atKey hat
        cases hfk : f (.int .i64 x) with
        | none => rw [hfk] at h1; simp only at h1; rw [h1] at h2; cases h2
        | some u => rfl
      obtain ⟨pp, hpp, vp, hvp, hvx⟩ := (HKEY.out x).1 hfs
      have hxr := HSR.out pp hpp vp hvp
      rw [hvx] at hxr
      have hb4 : Below w2.heap.size w2 w4 := HB.out.grown hg4 HB.out.size (fun j hj => by simp at hj; have := HRB.out; omega)
      have HRG4 := Lib.hid hrg4
      have HB4 := Lib.hid hb4
      have hml : w4.rangeLeft mb rb < wr.rangeLeft mb rb := by rw [hrg4.left_eq, HRG.out.left_eq]; exact hcl
      have HML := Lib.hid hml
      have HEX : Hid (∃ p ∈ L, ∃ v ∈ p.vs, v.s = x) := ⟨pp, hpp, vp, hvp, hvx⟩
      have HL : Hid (∀ T', T ≤ T' → x ≤ T' → ∀ s, (f (.int .i64 s)).isSome = true → s ≤ T' ∨ (left (.int .i64 s) && !(Lit.int .i64 s).sameKey (.int .i64 x)) = true) := by
        intro T' h1 h2 s hs
        by_cases e : s = x
        · left; omega
        · rcases HI.out.1 s hs with h3 | h3
          · left; omega
          · right
            have : (Lit.int .i64 s).sameKey (.int .i64 x) = false := by simp [Lit.sameKey, e]
            rw [h3, this]; rfl
      clear hkl hlk hrw hat hrg4 hcl hg4 hs4 hfs hpp hvp hvx hb4 hml
      by_cases hlt : T < x
      · go_wp2_with fail
        go_roundw
        case rel => exact ⟨x, _, _, by rw [show max T x = x by omega], HRG4, HB4, by omega, HL.out x (by omega) (Int.le_refl _), .inr HEX.out⟩
        case measure => exact HML.out
      · go_wp2_with fail
        go_roundw
        case rel => exact ⟨T, _, _, by rw [show max T x = T by omega], HRG4, HB4, hT, HL.out T (Int.le_refl _) (by omega), HI.out.2⟩
        case measure => exact HML.out
theorem open_ok (w : World) (nodes from_ : Int) (a : Option Addr) (c : Nat) (l : List Pt) (h : RowP w a l) :
    Calls Tryz.prog 49 #[.int .i64 nodes, .int .i64 from_, .slice a l.length c] w (OpenR w nodes from_ (l.map pv)) := by
  cases hr : rightB nodes (l.map pv) with
  | false => exact (open_form w nodes from_ a c l h hr).mono fun e w' he => openR_err he (by unfold openE; rw [if_pos (right_no hr)]) (by decide)
  | true =>
    have hR := right_of hr
    by_cases hf : from_ < 1 ∨ 1099511627776 < from_
    · exact (open_arg w nodes from_ a c l h hr hf).mono fun e w' he => openR_err he (by unfold openE; rw [if_neg (fun hn => hn hR), if_pos hf]) (by decide)
    · have hf' : 1 ≤ from_ ∧ from_ ≤ 1099511627776 := by omega
      have hll : ((l.map pv).length : Int) = (l.length : Int) := by rw [List.length_map]
      by_cases hq : 2 * (l.length : Int) ≤ nodes
      · exact (open_few w nodes from_ a c l h hr hf' hq).mono fun e w' he => openR_err he (by unfold openE; rw [if_neg (fun hn => hn hR), if_neg hf, hll, if_pos hq]) (by decide)
      · exact open_go w nodes from_ a c l h hr hf' hq
end Go.Proofs.YtcaakiaenfkeaaaGreat.chop
