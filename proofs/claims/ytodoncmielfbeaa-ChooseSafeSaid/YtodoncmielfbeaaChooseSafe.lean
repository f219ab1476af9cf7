/-
  ChooseSafe: let members promise and accept, let each draw propose one value a slot, and for what is open what Open says of a majority's promises: never are two values chosen for one slot, whatever comes, in whatever order, how often ever.
-/
import Derived.Test.YtodoncmielfbeaaChSp
import Derived.Test.YtodoncmielfbeaaChA
import Derived.Test.YtodoncmielfbeaaChCh
import Derived.Test.YtodoncmielfbeaaChOp
import Derived.Test.YtodoncmielfbeaaKit6
import Derived.Deep.CutBlock
import Derived.Test.YtodoncmielfbeaaChecked
import Derived.Test.YtodoncmielfbeaaRows
namespace Go.Proofs.Ytodoncmielfbeaa.chooseSafe
open Go.ChangeShapes Go.WideShapes Go.ChangeAt Go.RowKit Go.Joins
open Go.Proofs.Ytodoncmielfbeaa.kit Go.Proofs.Ytodoncmielfbeaa.mapkit Go.Proofs.Ytodoncmielfbeaa.byt Go.Proofs.Ytodoncmielfbeaa.own Go.Proofs.Ytodoncmielfbeaa.accd Go.Proofs.Ytodoncmielfbeaa.accb Go.Proofs.Ytodoncmielfbeaa.acce Go.Proofs.Ytodoncmielfbeaa.acch Go.Proofs.Ytodoncmielfbeaa.chd Go.Proofs.Ytodoncmielfbeaa.chb Go.Proofs.Ytodoncmielfbeaa.chq Go.Proofs.Ytodoncmielfbeaa.che Go.Proofs.Ytodoncmielfbeaa.cho Go.Proofs.Ytodoncmielfbeaa.chc Go.Proofs.Ytodoncmielfbeaa.chv Go.Proofs.Ytodoncmielfbeaa.chop Go.Proofs.Ytodoncmielfbeaa.chch Go.Proofs.Ytodoncmielfbeaa.chw Go.Proofs.Ytodoncmielfbeaa.cha Go.Proofs.Ytodoncmielfbeaa.chsf Go.Proofs.Ytodoncmielfbeaa.chsm Go.Proofs.Ytodoncmielfbeaa.chsn Go.Proofs.Ytodoncmielfbeaa.chso Go.Proofs.Ytodoncmielfbeaa.chspp
set_option linter.unusedVariables false
set_option linter.unusedSimpArgs false
set_option maxHeartbeats 100000000
set_option maxRecDepth 100000

/-- A move. -/
structure Mv where
  kind : Int
  draw : Int
  who : Int
  slot : Int
  val : Nat
def mcells (m : Mv) : List Value := [.int .i64 m.kind, .int .i64 m.draw, .int .i64 m.who, .int .i64 m.slot, .int .u8 (m.val : Int)]
theorem u64_pos (x : Int) : 0 ≤ IntKind.u64.wrap x := by
  simp only [IntKind.wrap, IntKind.signed, IntKind.bits]
  first | omega | (split <;> omega) | exact Int.emod_nonneg _ (by decide)
/-- int(uint(x) % uint(n)). -/
theorem md_ok (x n : Int) (hn : 0 < n ∧ n ≤ 1000000) : ∃ q : Nat, wrap64 ((IntKind.u64.wrap x).tmod n) = (q : Int) ∧ (q : Int) < n := by
  have h0 := u64_pos x
  have h1 : 0 ≤ (IntKind.u64.wrap x).tmod n := Int.tmod_nonneg _ h0
  have h2 : (IntKind.u64.wrap x).tmod n < n := Int.tmod_lt_of_pos _ hn.1
  refine ⟨((IntKind.u64.wrap x).tmod n).toNat, ?_, by omega⟩
  have h3 : wrap64 ((IntKind.u64.wrap x).tmod n) = (IntKind.u64.wrap x).tmod n := IntWalk.wrap64_in _ (by omega)
  omega

theorem infoAcc : (Try.prog.info? 55).map (fun i => (i.zero, i.size, i.bytes)) = some (some (.pointer none), 1, 8) := by kernel_rfl
theorem infoTrn : (Try.prog.info? 62).map (fun i => (i.zero, i.size, i.bytes)) = some (some (.pointer none), 1, 8) := by kernel_rfl

theorem row_mv {w : World} {a : Option Addr} {l : List Mv} (h : RowsAt w a 5 (l.map mcells)) (k : Nat) (hk : k < l.length) :
    ∃ g off, a = some ⟨g, off, none⟩ ∧ g < w.heap.size ∧ w.cell? ⟨g, off + k * 5, none⟩ = some (.int .i64 l[k].kind) ∧ w.cell? ⟨g, off + k * 5 + 1, none⟩ = some (.int .i64 l[k].draw) ∧ w.cell? ⟨g, off + k * 5 + 2, none⟩ = some (.int .i64 l[k].who) ∧ w.cell? ⟨g, off + k * 5 + 3, none⟩ = some (.int .i64 l[k].slot) ∧ w.cell? ⟨g, off + k * 5 + 4, none⟩ = some (.int .u8 (l[k].val : Int)) := by
  rcases h with h | ⟨b, off, rfl, hz, h3⟩
  · have : l = [] := by simpa using h
    subst this; simp at hk
  · have hi : k < (l.map mcells).length := by simpa using hk
    have e0 := h3 k hi 0 (by omega)
    have e1 := h3 k hi 1 (by omega)
    have e2 := h3 k hi 2 (by omega)
    have e3 := h3 k hi 3 (by omega)
    have e4 := h3 k hi 4 (by omega)
    simp only [List.getElem_map, Nat.add_zero] at e0 e1 e2 e3 e4
    exact ⟨b, off, rfl, hz, e0.trans rfl, e1.trans rfl, e2.trans rfl, e3.trans rfl, e4.trans rfl⟩

theorem ptr_cell {w : World} {base n c : Nat} {T : TypeId} {a : Option Addr} {xs : List Value} (h : w.ownsRow base T 1 (.slice a n c) n xs) {i : Nat} (hi : i < n) {x : Value} (hx : xs[i]? = some x) : ∃ g, a = some ⟨g, 0, none⟩ ∧ g < w.heap.size ∧ w.cell? ⟨g, i, none⟩ = some x := by
  obtain ⟨g, rfl⟩ := own_ptr h (by omega)
  have h1 := h.cells (g := g) rfl i x hx
  refine ⟨g, rfl, (own_from h g rfl).2, ?_⟩
  unfold Addr.add at h1
  split at h1
  · next h0 => subst h0; exact h1
  · simpa using h1

theorem openL_len {N : Int} {L : List chp.Pr} (h : openE N 1 L = 0) : (openL N 1 L).length ≤ 1024 := by
  unfold openL
  rw [if_pos h, ents_len]
  unfold openE at h
  unfold openN
  split at h
  · simp at h
  · split at h
    · simp at h
    · split at h
      · simp at h
      · split at h
        · simp at h
        · omega
theorem prop_none {w : World} {u : Tw} {x : Int} {args : Array Value} (h : Calls Try.prog 24 args w (PropR w u x)) (hl : chsf.look (u.es.map le) x = none) :
    Calls Try.prog 24 args w fun e w' => e = .returned (.tuple #[.slice none 0 0, .bool false]) ∧ w' = w := by
  refine h.mono ?_
  rintro e w' ⟨hw, h⟩
  rcases h with ⟨rfl, -⟩ | ⟨t, -, -, -, h⟩
  · exact ⟨rfl, hw⟩
  · rw [hl] at h; simp at h
theorem prop_some {w : World} {u : Tw} {x : Int} {d : List Nat} {args : Array Value} (h : Calls Try.prog 24 args w (PropR w u x)) (hl : chsf.look (u.es.map le) x = some d) :
    Calls Try.prog 24 args w fun e w' => (∃ t ∈ u.es, e = .returned (.tuple #[.slice t.a t.l.length t.c, .bool true]) ∧ t.s = x ∧ d = t.l) ∧ w' = w := by
  refine h.mono ?_
  rintro e w' ⟨hw, h⟩
  rcases h with ⟨-, h⟩ | ⟨t, h1, h2, h3, h4⟩
  · rw [hl] at h; simp at h
  · rw [hl] at h4
    exact ⟨⟨t, h1, h2, h3, Option.some.inj h4⟩, hw⟩

theorem List.any_take_succ' {α : Type} (P : α → Bool) {l : List α} {j : Nat} (h : j < l.length) : (l.take (j + 1)).any P = ((l.take j).any P || P l[j]) := by
  rw [List.take_succ_eq_append_getElem h, List.any_append]; simp
theorem allV_len (As : List AS) : (allV As).length = As.length := by simp [allV, allP]
theorem allV_take {As : List AS} {j : Nat} (h : j < As.length) : (allV As).take (j + 1) = (allV As).take j ++ [⟨(j : Int) + 1, As[j].vs.map v4⟩] := by
  rw [List.take_succ_eq_append_getElem (by rw [allV_len]; exact h)]
  congr 1
  simp [allV, allP, mm]
/-- An append to a row of the call's own, one operation by itself, with where the new slice lies. -/
theorem oper_append_at {P : Program} {w : World} {o : Oper} {a : Act} {K : Act → World → Prop} {Q : Exit → Act → World → Prop}
    (s x : Operand) (t : TypeId) (ho : o.op = Op.call { callee := Callee.builtin Builtin.append, args := #[s, x], argTypes := #[t, t] })
    (base : Nat) (e : TypeId) (i : TypeInfo) (z : Value) (size bytes : Nat) (ht : P.underlying t = some (.slice e)) (hi : P.info? e = some i) (hz : i.zero = some z) (hsz : i.size = size) (hby : i.bytes = bytes)
    (hzs : z.cells.size = size) (hpos : 0 < size) (v : Value) (n : Nat) (xs : List Value) (hs : a.eval s = v) (hown : w.ownsRow base e size v n xs)
    (ad : Addr) (m c : Nat) (news : List Value) (hx : a.eval x = .slice (some ad) m c) (hlen : news.length = m * size) (hlie : Lie w (some ad) news) (hone : ∀ u ∈ news, u.oneCell' = true)
    (hmax : n + m ≤ maxLen) (hbytes : (n + m) * bytes ≤ 140737488355328) (hbase : base ≤ w.heap.size)
    (h : ∀ (v' : Value) (w' : World), w'.ownsRow base e size v' (n + m) (xs ++ news) → w.grownBy w' v.ownBlock → (∀ k, v'.ownBlock = some k → v.ownBlock = some k ∨ w.heap.size ≤ k) → K (a.put o.dst v') w') : Oper.wp P o a w K Q := by
  obtain ⟨v', w', hr, h1, h2, _⟩ := run_append_own (P := P) w base t o.type e i z size bytes ht hi hz hsz hby hzs hpos v n xs hown ad m c news hlen (kit.lie_adds hlie) hone hmax hbytes hbase
  have h3 := run_own_at base t o.type e i z ht hi hz v n xs (by rw [hsz]; exact hown) ad m c news (by rw [hsz]; exact hlen) (kit.lie_adds hlie) hone hmax (by rw [hby]; exact hbytes) hr
  unfold Oper.wp execOp
  simp only [ho, resolve, invoke, builtin, Sem.run_bind, Sem.run_pure, Result.andThen_ok, List.map_toArray, List.map_cons, List.map_nil, hs, hx, hr]
  exact h v' w' h1 h2 h3
theorem safe_ok (w : World) (n0 : Int) (a : Option Addr) (c : Nat) (l : List Mv) (hat : RowsAt w a 5 (l.map mcells)) (hl : l.length ≤ 9223372036854775807) (hv : ∀ m ∈ l, m.val < 256) :
    Calls Try.prog 6 #[.int .i64 n0, .slice a l.length c] w fun e w' => e = .returned (.bool true) ∧ Below w.heap.size w w' := by
  have HR := Lib.hid (fun (wr : World) (hb : Below w.heap.size w wr) => hat.below hb)
  obtain ⟨q, hq, hq3⟩ := md_ok n0 3 (by omega)
  obtain ⟨w0, hw0⟩ : ∃ w0, w0 = w.alloc (.cells #[.int .i64 1, .int .i64 3, .int .i64 5] 3) := ⟨_, rfl⟩
  obtain ⟨N, hN, hNr⟩ : ∃ N : Int, (w.alloc (.cells #[.int .i64 1, .int .i64 3, .int .i64 5] 3)).cell? ⟨w.heap.size, q, none⟩ = some (.int .i64 N) ∧ (N = 1 ∨ N = 3 ∨ N = 5) := by
    have h1 := (kit.blk (hp_alloc_new w (.cells #[.int .i64 1, .int .i64 3, .int .i64 5] 3))).1 q
    have h2 : q = 0 ∨ q = 1 ∨ q = 2 := by omega
    rcases h2 with rfl | rfl | rfl
    · exact ⟨1, h1, .inl rfl⟩
    · exact ⟨3, h1, .inr (.inl rfl)⟩
    · exact ⟨5, h1, .inr (.inr rfl)⟩
  have HB0 : Hid (Below w.heap.size w w0) := by rw [hw0]; exact below_new1 _ _
  have HW0 := Lib.hid hw0
  have hq0 : (0 : Int) ≤ (q : Int) := by omega
  clear hat hw0
  go_enter Try.func6, Try.ntmps6
  go_upto_region 2 with fail
  rw [← HW0.out]
  have HA := Lib.hid (awake_ok w0)
  clear HW0 hN hq hq3 hq0
  go_wp2_with fail
  refine HA.out.mono ?_; rintro e w1 ⟨rfl, hb1⟩
  have HB1 := Lib.hid (below_step HB0.out hb1)
  clear hb1 HA HB0
  obtain ⟨ja, hja, ha0, ha1, ha2⟩ := info_parts infoAcc
  obtain ⟨jt, hjt, ht0, ht1, ht2⟩ := info_parts infoTrn
  obtain ⟨je, hje, he0, he1, he2⟩ := info_parts infoEntry
  obtain ⟨jp, hjp, hp0, hp1, hp2⟩ := info_parts infoProm
  obtain ⟨K, hK, hKr⟩ : ∃ K : Nat, N = (K : Int) ∧ 1 ≤ K ∧ K ≤ 5 := ⟨N.toNat, by omega, by omega⟩
  subst hK
  clear hNr
  go_wp2_with fail
  go_loopw [5, 6] (fun ms i wr => ∃ (k : Nat) (bs : List (Nat × Nat)) (ma : Option Addr) (mc : Nat), k ≤ K ∧ i = .int .i64 k ∧ ms = .slice ma bs.length mc ∧ Hid (bs.length = k) ∧ Hid (chsm.Sys wr w.heap.size 0 bs (List.replicate k startS) [] ma mc none 0 none 0 []) ∧ Hid (Below w.heap.size w wr)) (fun _ i _ => K - (RowKit.intOf i).toNat)
  case atStart => exact ⟨0, [], none, 0, Nat.zero_le _, rfl, rfl, rfl, sys_start _ _ _, HB1⟩
  case round =>
    obtain ⟨k, bs, ma, mc, hk, rfl, rfl, HBL, HS, HB⟩ := hrel
    by_cases hlt : k < K
    · have HN := Lib.hid (newA_ok wr)
      have hKi : (k : Int) < (K : Int) := by omega
      have hK9 : K ≤ 9223372036854775807 := by omega
      have hb5 : bs.length ≤ 5 := by rw [HBL.out]; omega
      go_wp2_with (first | (go_at_call 20; refine HN.out.mono ?_; rintro e w7 ⟨rfl, hA7, hb7⟩; have HS7 := Lib.hid (HS.out.below hb7); have HA7 := Lib.hid hA7; have HB7 := Lib.hid hb7; clear hA7 hb7) | (at_builtin; refine wpl_append rfl (.tmp 44) (.tmp 46) 54 rfl w.heap.size 55 ja _ 1 8 Try.underlying54 hja ha0 ha1 ha2 rfl (by decide) _ bs.length (bs.map fun b => ptr b.1) rfl (HS7.out.mem.alloc _) (some ⟨w7.heap.size, 0, none⟩) 1 1 [ptr (wr.heap.size + 1)] rfl (by simp) rfl (lie_one _ _ _) (by simp [ptr, Value.oneCell']) (by unfold maxLen; omega) (by omega) (by have h1 := HB7.out.size; have h2 := HB.out.size; rw [size_new]; omega) ?_))
      intro v8 w8 hown hgr
      obtain ⟨a8, c8, rfl⟩ := own_shape hown
      have hal : Below w7.heap.size w7 (w7.alloc (.cells #[ptr (wr.heap.size + 1)] 55)) := below_new1 _ _
      have hkr := keep_row hal ((HS7.out.below hal).mem) hgr
      have hA8 := acc_row HA7.out HS7.out.mem (by decide) hkr
      have hk8 : Keep (fun g => ma = some ⟨g, 0, none⟩) wr w8 := (Keep.of_below HB7.out).trans hkr
      have hs8 := HS.out.new_step (acc_mono hA8 HB.out.size) ⟨by omega, by omega⟩ hk8 hown
      have hB8 : Below w.heap.size w w8 := keep_below HB.out hk8 (fun g hg hs => by have := (own_from HS.out.mem g hs).1; omega)
      have hrep : List.replicate k startS ++ [startS] = List.replicate (k + 1) startS := (List.replicate_succ' ..).symm
      rw [hrep] at hs8
      have HS8 := Lib.hid hs8
      have HB8 := Lib.hid hB8
      clear hown hgr hal hkr hA8 hk8 hs8 hB8 hrep
      go_wp2_with fail
      go_roundw
      case rel => exact ⟨k + 1, bs ++ [(wr.heap.size + 1, wr.heap.size)], a8, c8, by omega, by go_num, by simp, by simp [Hid, HBL.out], HS8, HB8⟩
      case measure => simp [RowKit.intOf]; omega
    · obtain rfl : k = K := by omega
      have HD0 := Lib.hid (dat_start (k : Int) (by omega))
      rw [Int.toNat_natCast] at HD0
      obtain ⟨A0, hA0⟩ : ∃ A0, A0 = List.replicate k startS := ⟨_, rfl⟩
      rw [← hA0] at HD0 HS
      have hwN : IntKind.u64.wrap (k : Int) = (k : Int) := IntWalk.u64_in _ (by omega)
      have hwN2 : 0 < (k : Int) := by omega
      have hl9 : l.length ≤ 9223372036854775807 := by omega
      clear hA0 hlt hk
      go_wp2_with fail
      go_loopw [7, 8, 9] (fun tv cv i wr => ∃ (m : Nat) (As : List AS) (us : List Tw) (ta : Option Addr) (tc : Nat) (ca : Option Addr) (cc : Nat) (ch : List Et), m ≤ l.length ∧ m ≤ 300 ∧ i = .int .i64 m ∧ tv = .slice ta us.length tc ∧ cv = .slice ca ch.length cc ∧ Hid (chsm.Sys wr w.heap.size m bs As us ma mc ta tc ca cc ch) ∧ Hid (Dat k As us ch) ∧ Hid (ch.length ≤ 1024 * m) ∧ Hid (Below w.heap.size w wr)) (fun _ _ i _ => l.length - (RowKit.intOf i).toNat)
      case atStart => exact ⟨0, A0, [], none, 0, none, 0, [], Nat.zero_le _, Nat.zero_le _, rfl, rfl, rfl, HS, HD0, Nat.zero_le _, HB⟩
      case round =>
        obtain ⟨m, As, us, ta, tc, ca, cc, ch, hm, hm3, rfl, rfl, rfl, HS, HD, HC, HB⟩ := hrel
        by_cases hlm : m < l.length ∧ m < 300
        · obtain ⟨hml, hm300⟩ := hlm
          have hmi : (m : Int) < 300 := by omega
          obtain ⟨g, off, rfl, hgz, x0, x1, x2, x3, x4⟩ := row_mv (HR.out wr HB.out) m hml
          obtain ⟨v, hvdef⟩ : ∃ v, v = l[m] := ⟨_, rfl⟩
          have hv256 : v.val < 256 := by rw [hvdef]; exact hv _ (List.getElem_mem hml)
          rw [← hvdef] at x0 x1 x2 x3 x4
          obtain ⟨wm, hwm⟩ : ∃ wm, wm = wr.alloc (.cells #[.int .i64 v.kind, .int .i64 v.draw, .int .i64 v.who, .int .i64 v.slot, .int .u8 (v.val : Int)] 59) := ⟨_, rfl⟩
          obtain ⟨pb, hpb⟩ : ∃ pb, pb = wr.heap.size := ⟨_, rfl⟩
          have hn5 : wm.heap[pb]? = some (.cells #[.int .i64 v.kind, .int .i64 v.draw, .int .i64 v.who, .int .i64 v.slot, .int .u8 (v.val : Int)] 59 (0, 0)) := by rw [hwm, hpb]; exact hp_alloc_new _ _
          have hbm : Below wr.heap.size wr wm := by rw [hwm]; exact below_new1 _ _
          have HWM := Lib.hid hwm
          have HPB := Lib.hid hpb
          have HSm := Lib.hid (HS.out.below hbm)
          have HBm := Lib.hid (below_step HB.out hbm)
          have HN5 := Lib.hid hn5
          have hul : us.length ≤ 300 := by have := HS.out.cnt.1; omega
          clear hn5 hbm hwm hpb hvdef HS HB
          go_upto_region 15 with fail
          rw [← HWM.out, ← HPB.out]
          clear x0 x1 x2 x3 x4 hgz HWM HPB
          obtain ⟨x0, x1, x2, x3, x4, xz⟩ := blk5 HN5.out
          obtain ⟨q, hq, hqk⟩ := md_ok v.who (k : Int) (by omega)
          have hqn : q < k := by omega
          by_cases hk1 : v.kind = 1
          · have t1 : (v.kind == 1) = true := by simp [hk1]
            have hw1 : IntKind.i64.wrap (1 + (q : Int)) = 1 + (q : Int) := IntWalk.i64_in _ (by omega)
            have HN := Lib.hid (fun (wz : World) => next_ok us.length (1 + (q : Int)) (by omega) (by omega) wz)
            clear x1 x3 x4
            go_upto_region 17 with (go_at_call 21; refine (HN.out _).mono ?_; rintro e w7 ⟨rfl, hb7⟩; have HS7 := Lib.hid (HSm.out.below hb7); have HB7 := Lib.hid hb7; clear hb7)
            obtain ⟨w8, hw8⟩ : ∃ w8, w8 = w7.alloc (.cells #[.int .i64 ((us.length : Int) + 1), .int .i64 (1 + (q : Int))] 43) := ⟨_, rfl⟩
            have hn8 : w8.heap[w7.heap.size]? = some (.cells #[.int .i64 ((us.length : Int) + 1), .int .i64 (1 + (q : Int))] 43 (0, 0)) := by rw [hw8]; exact hp_alloc_new _ _
            have hb78 : Below w7.heap.size w7 w8 := by rw [hw8]; exact below_new1 _ _
            rw [← hw8]
            have HS8 := Lib.hid (HS7.out.below hb78)
            have HB8 := Lib.hid (below_step HBm.out (below_step HB7.out hb78))
            obtain ⟨z0, z1, fz0, fz1, zz⟩ := blk2 hn8
            have hb8w := HB8.out.size
            clear hn8 hb78 hw8 HS7 HB7 HSm HBm x0 x2 xz HN fz0 fz1
            go_wp2_with (at_builtin; refine wpl_append rfl (.tmp 82) (.tmp 86) 57 rfl w.heap.size 62 jt _ 1 8 Try.underlying57 hjt ht0 ht1 ht2 rfl (by decide) _ us.length (us.map fun u => ptr u.tb) rfl ((HS8.out.trn.alloc _).alloc _) (some ⟨w8.heap.size + 1, 0, none⟩) 1 1 [ptr w8.heap.size] rfl (by simp) rfl (by rw [← size_new]; exact lie_one _ _ _) (by simp [ptr, Value.oneCell']) (by unfold maxLen; omega) (by omega) (by rw [size_new, size_new]; omega) ?_)
            intro v9 w9 hown hgr
            obtain ⟨a9, c9, rfl⟩ := own_shape hown
            have hnT := hp_alloc_new w8 (.cells #[.int .i64 ((us.length : Int) + 1), .int .i64 (1 + (q : Int)), .slice none 0 0, .slice none 0 0, .bool false] 64)
            have hkr := keep_row (below_new1 _ _) ((HS8.out.trn.alloc _).alloc _) hgr
            have hblk := hkr.hp hnT (fun hs => own_ne (HS8.out.trn.alloc _) hnT (by decide) _ hs rfl)
            have hk8 := (Keep.of_below (S := fun g => ta = some ⟨g, 0, none⟩) (below_new1 w8 (.cells #[.int .i64 ((us.length : Int) + 1), .int .i64 (1 + (q : Int)), .slice none 0 0, .slice none 0 0, .bool false] 64))).trans hkr
            have hs9 := HS8.out.draw_step (m' := m + 1) (u := ⟨w8.heap.size, (us.length : Int) + 1, 1 + (q : Int), none, 0, [], none, 0, [], false⟩) (Nat.le_refl _) ⟨hblk, by omega, ⟨World.ownsRow_nil _ _ _ _, by simp⟩, ownE_nil _ _, by simp⟩ (Nat.le_refl _) ⟨rfl, rfl, rfl, rfl⟩ hk8 hown
            have hB9 : Below w.heap.size w w9 := keep_below HB8.out hk8 (fun g hg hs => by have := (own_from HS8.out.trn g hs).1; omega)
            have hD9 := HD.out.draw (u := ⟨w8.heap.size, (us.length : Int) + 1, 1 + (q : Int), none, 0, [], none, 0, [], false⟩) ⟨by show (1 : Int) ≤ 1 + (q : Int); omega, by show 1 + (q : Int) ≤ (k : Int); omega⟩ rfl ⟨rfl, rfl, rfl⟩
            have HS9 := Lib.hid hs9
            have HB9 := Lib.hid hB9
            have HD9 := Lib.hid hD9
            have HC9 : Hid (ch.length ≤ 1024 * (m + 1)) := by have := HC.out; show ch.length ≤ 1024 * (m + 1); omega
            clear hown hgr hnT hkr hblk hk8 hs9 hB9 hD9
            as_aux_lemma =>
              go_wp2_with fail
              go_roundw
              case rel => exact ⟨m + 1, As, _, a9, c9, ca, cc, ch, by omega, by omega, by go_num, by simp, rfl, HS9, HD9, HC9, HB9⟩
              case measure => simp [RowKit.intOf]; omega
          · have t1 : (v.kind == 1) = false := by simpa using hk1
            by_cases hu0 : us.length = 0
            · have t2 : ((us.length : Int) == 0) = true := by simp [hu0]
              have hs9 := HSm.out.more (Nat.le_succ m)
              have HS9 := Lib.hid hs9
              have HC9 : Hid (ch.length ≤ 1024 * (m + 1)) := by have := HC.out; show ch.length ≤ 1024 * (m + 1); omega
              clear hs9 hu0
              as_aux_lemma =>
                go_wp2_with fail
                go_roundw
                case rel => exact ⟨m + 1, As, us, ta, tc, ca, cc, ch, by omega, by omega, by go_num, rfl, rfl, HS9, HD, HC9, HBm⟩
                case measure => simp [RowKit.intOf]; omega
            · have t2 : ((us.length : Int) == 0) = false := by simpa using hu0
              obtain ⟨n3, hn3, hn3r⟩ : ∃ n3 : Int, min (3 : Int) (us.length : Int) = n3 ∧ 1 ≤ n3 ∧ n3 ≤ 3 ∧ n3 ≤ (us.length : Int) := ⟨_, rfl, by omega, by omega, by omega⟩
              have hwn3 : IntKind.u64.wrap n3 = n3 := IntWalk.u64_in _ (by omega)
              obtain ⟨q2, hq2, hq2k⟩ := md_ok v.draw n3 (by omega)
              obtain ⟨q4, hq4, hq4k⟩ := md_ok v.slot 4 (by omega)
              obtain ⟨ix, hix, hixl⟩ : ∃ ix : Nat, wrap64 ((us.length : Int) - 1 - (q2 : Int)) = (ix : Int) ∧ ix < us.length := ⟨us.length - 1 - q2, by rw [IntWalk.wrap64_in _ (by omega)]; omega, by omega⟩
              obtain ⟨gt, rfl, hgt, xt⟩ := ptr_cell HSm.out.trn hixl (x := ptr us[ix].tb) (by simp [hixl])
              have xt' : wm.cell? ⟨gt, ix, none⟩ = some (.pointer (some ⟨us[ix].tb, 0, none⟩)) := xt
              have hqb : q < bs.length := by rw [HBL.out]; omega
              obtain ⟨gm, rfl, hgm, xm⟩ := ptr_cell HSm.out.mem hqb (x := ptr bs[q].1) (by simp [hqb])
              have xm' : wm.cell? ⟨gm, q, none⟩ = some (.pointer (some ⟨bs[q].1, 0, none⟩)) := xm
              obtain ⟨u, hu⟩ : ∃ u, u = us[ix] := ⟨_, rfl⟩
              obtain ⟨b, hb⟩ : ∃ b, b = bs[q] := ⟨_, rfl⟩
              rw [← hu] at xt'
              rw [← hb] at xm'
              have HU := Lib.hid hu
              have HBQ := Lib.hid hb
              have hul9 : us.length ≤ 9223372036854775807 := by omega
              have hbl9 : bs.length ≤ 9223372036854775807 := by rw [HBL.out]; omega
              have hw1 : IntKind.i64.wrap (1 + (q : Int)) = 1 + (q : Int) := IntWalk.i64_in _ (by omega)
              have hw4 : IntKind.i64.wrap (1 + (q4 : Int)) = 1 + (q4 : Int) := IntWalk.i64_in _ (by omega)
              clear xt xm hu hb hq2k hn3r hu0
              go_upto_region 25 with fail
              clear hq hq2 hq4 hix hwN hn3 hwn3 xt' xm' x1 x2 x3 hwN2
              go_upto_block 4 with fail
              go_cut [17, 18, 19, 20, 21, 22, 23] from 48 to 320 (fun a b c d e f g wx => ∃ (As2 : List AS) (us2 : List Tw), us2.length = us.length ∧ Hid (chsm.Sys wx w.heap.size (m + 1) bs As2 us2 (some ⟨gm, 0, none⟩) mc (some ⟨gt, 0, none⟩) tc ca cc ch) ∧ Hid (Dat k As2 us2 ch) ∧ Hid (Below w.heap.size w wx))
              case first => as_aux_lemma =>
                by_cases hk2 : v.kind = 2
                · have t3 : (v.kind == 2) = true := by simp [hk2]
                  have hqA : q < As.length := by rw [← HSm.out.len]; exact hqb
                  have hixu : us[ix] ∈ us := List.getElem_mem hixl
                  rw [← HU.out] at hixu
                  obtain ⟨y0, y1, y2, y3, y4, yz⟩ := blk5 (HSm.out.tw u hixu).blk
                  have y0' : wm.cell? ⟨u.tb, 0, none⟩ = some (.int .i64 u.r) := y0
                  have y1' : wm.cell? ⟨u.tb, 1, none⟩ = some (.int .i64 u.n) := y1
                  have hacc := HSm.out.acc q hqb hqA
                  rw [← HBQ.out] at hacc
                  obtain ⟨A, hA⟩ : ∃ A, A = As[q] := ⟨_, rfl⟩
                  rw [← hA] at hacc
                  have HFIT := Lib.hid (acc_fit hacc)
                  have HFB := Lib.hid (fun v hv => (HD.out.ga A (by rw [hA]; exact List.getElem_mem hqA) v hv : Byt v.l))
                  have HF1 := Lib.hid (HD.out.first A (by rw [hA]; exact List.getElem_mem hqA))
                  have HP := Lib.hid (prepare_ok wm w.heap.size b.1 b.2 A u.r u.n 1 hacc)
                  have HD7 := Lib.hid (Dat.prep HD.out hqA u.r u.n)
                  rw [← hA] at HD7
                  have hloq := acc_lo hacc
                  obtain ⟨E, hE⟩ : ∃ E, E = prepE A u.r u.n := ⟨_, rfl⟩
                  rw [← hE] at HP
                  have HE := Lib.hid hE
                  have HA := Lib.hid hA
                  clear y0 y1 y2 y3 y4 hacc hA hE
                  go_upto_region 31 with (go_at_call 22; refine HP.out.mono ?_; rintro e w7 ⟨v7, rfl, hT7, hA7, hk7⟩; have HS7 := Lib.hid (HSm.out.acc_step hqb (by rw [← HBQ.out]; exact hA7) (by rw [← HBQ.out]; exact hk7)); have HB7 := Lib.hid (keep_below HBm.out hk7 (fun g hg hs => by rcases hs with hs | hs <;> omega)); have HT7 := Lib.hid hT7; have HSZ := Lib.hid hk7.size; clear hT7 hA7 hk7)
                  have hwmz := HBm.out.size
                  clear y0' y1' HP HSm HBm x0 xz
                  have hu7 : u ∈ us := hixu
                  obtain ⟨y0, y1, y2, y3, y4, yz⟩ := blk5 (HS7.out.tw u hu7).blk
                  have y2' : w7.cell? ⟨u.tb, 2, none⟩ = some (.slice u.a u.l.length u.c) := y2
                  have y4' : w7.cell? ⟨u.tb, 4, none⟩ = some (.bool u.leads) := y4
                  have htu := (HS7.out.tw u hu7)
                  have hcu := HS7.out.cnt.2 u hu7
                  have HPM := Lib.hid (promised_ok w7 w.heap.size u (1 + (q : Int)) htu (by omega))
                  have HTU := Lib.hid htu
                  clear y0 y1 y2 y3 y4 htu
                  have hREL : Hid ((m + 1 ≤ l.length) ∧ (m + 1 ≤ 300)) := ⟨by omega, by omega⟩
                  have HC9 : Hid (ch.length ≤ 1024 * (m + 1)) := by have := HC.out; show ch.length ≤ 1024 * (m + 1); omega
                  by_cases hE0 : E = 0
                  · subst hE0
                    cases hld : u.leads with
                    | true =>
                      rw [hld] at y4'
                      as_aux_lemma =>
                        go_wp2_with fail
                        go_roundw
                        case rel => exact ⟨m + 1, _, us, _, tc, ca, cc, ch, hREL.out.1, hREL.out.2, by go_num, rfl, rfl, HS7.out.more (Nat.le_succ m), HD7, HC9, HB7⟩
                        case measure => simp [RowKit.intOf]; omega
                    | false =>
                      rw [hld] at y4'
                      cases hany : u.l.any (fun p => decide (p.node = 1 + (q : Int))) with
                      | true =>
                        rw [hany] at HPM
                        as_aux_lemma =>
                          go_wp2_with (go_at_call 23; refine HPM.out.mono ?_; rintro e w8 ⟨rfl, rfl⟩)
                          go_roundw
                          case rel => exact ⟨m + 1, _, us, _, tc, ca, cc, ch, hREL.out.1, hREL.out.2, by go_num, rfl, rfl, HS7.out.more (Nat.le_succ m), HD7, HC9, HB7⟩
                          case measure => simp [RowKit.intOf]; omega
                      | false =>
                        rw [hany] at HPM
                        have hT : accc.Told wm w7 v7 (from4 A.vs 1) := by have := HT7.out; unfold Tells at this; rwa [if_pos HE.out.symm] at this
                        rw [from_all (fun v hv => (HFIT.out.1 v hv).2.1) HF1.out] at hT
                        obtain ⟨xa, xc, xs, rfl, hxs, hOP⟩ := told_own (x := 1 + (q : Int)) hT hwmz (fun v hv => ⟨(HFIT.out.1 v hv).1, HFB.out v hv, by have := HFIT.out.1 v hv; have := HFIT.out.2; omega⟩) HFIT.out.2.2.2 (by omega)
                        have HXS := Lib.hid hxs
                        have HOP := Lib.hid hOP
                        have hno : ∀ p ∈ u.l, p.node ≠ 1 + (q : Int) := fun p hp e => by
                          have h1 := List.any_eq_false.1 hany p hp
                          simp [e] at h1
                        have HNO := Lib.hid hno
                        have hw7z := HB7.out.size
                        clear hT hxs hOP hno hany HT7 HFIT HFB HF1
                        as_aux_lemma =>
                          go_upto_region 32 with (go_at_call 23; refine HPM.out.mono ?_; rintro e w8 ⟨rfl, e8⟩; obtain rfl := e8.symm; clear e8)
                          go_wp2_with (at_builtin; refine wpl_append_at rfl (.tmp 184) (.tmp 188) 22 rfl w.heap.size 36 jp _ 2 32 Try.underlying22 hjp hp0 hp1 hp2 rfl (by decide) _ u.l.length (pcells u.l) rfl (HTU.out.prs.row.alloc _) ⟨w7.heap.size, 0, none⟩ 1 1 (Pt.cells ⟨1 + (q : Int), xs, xa, xc⟩) rfl (by simp [Pt.cells]) (lie_new2' _ _ _ _) (by simp [Pt.cells, Value.oneCell']) (by unfold maxLen; omega) (by omega) (by rw [size_new]; omega) ?_)
                          intro v8 w8 hown hgr hat
                          obtain ⟨a8, c8, rfl⟩ := own_shape hown
                          have hkr := keep_row (below_new1 w7 (.cells #[.int .i64 (1 + (q : Int)), .slice xa xs.length xc] 36)) (HTU.out.prs.row.alloc _) hgr
                          obtain ⟨hb8, htw9, hk9⟩ := tw_promise HTU.out HOP.out hkr hown
                          obtain ⟨w9, hw9⟩ : ∃ w9, w9 = w8.setCell ⟨u.tb, 2, none⟩ (.slice a8 (u.l.length + 1) c8) := ⟨_, rfl⟩
                          rw [← hw9] at htw9 hk9
                          obtain ⟨f0, f1, f2, f3, f4, fz⟩ := blk5 hb8
                          obtain ⟨r0, r1, r2, r3, r4⟩ := blk5f hb8
                          have hnear : Near w7 u.a a8 := fun g hg => by
                            subst hg
                            rcases hat g rfl with e | e
                            · exact .inl (own_block (HTU.out.prs.row) g e)
                            · exact .inr (by omega)
                          have HS9 := Lib.hid (HS7.out.turn_step (i := ix) hixl (Nat.le_succ m) htw9 (by rw [← HU.out]) (by rw [← HU.out]; exact hnear) (by rw [← HU.out]; exact Near.refl _ _) ⟨by rw [List.length_append, List.length_singleton]; omega, by show u.es.length ≤ 1024 + (m + 1); omega⟩ (by rw [← HU.out]; exact hk9))
                          have hB9 : Below w.heap.size w w9 := keep_below HB7.out hk9 (fun g hg hs => by
                            rcases hs with hs | hs | hs
                            · have := HTU.out.lo; omega
                            · have := (own_from HTU.out.prs.row g hs).1; omega
                            · have := (own_from HTU.out.pro.row g hs).1; omega)
                          have HB9 := Lib.hid hB9
                          have HD9 := Lib.hid (HD7.out.promise (i := ix) (k := q) hixl (by rw [← HU.out]; exact hld) (by rw [List.length_set]; exact hqA) (by rw [List.getElem_set_self, ← HU.out, prep_r HE.out.symm]) (by rw [← HU.out]; exact fun p hp e => HNO.out p hp (by omega)) (u := ⟨u.tb, u.r, u.n, a8, c8, u.l ++ [⟨1 + (q : Int), xs, xa, xc⟩], u.ea, u.ec, u.es, u.leads⟩) (by rw [← HU.out]; exact ⟨rfl, rfl, rfl, hld⟩) (q := ⟨1 + (q : Int), xs, xa, xc⟩) (by rw [← HU.out]) (by show 1 + (q : Int) = (q : Int) + 1; omega) (by rw [List.getElem_set_self, prep_r HE.out.symm]; exact HXS.out))
                          have HTW9 := Lib.hid htw9
                          have HW9 := Lib.hid hw9
                          clear hown hgr hat hkr hb8 htw9 hk9 hw9 hnear hB9
                          go_upto_region 33 with fail
                          rw [← HW9.out]
                          have hrp := HTW9.out.prs.rowP (by rw [List.length_append, List.length_singleton]; omega)
                          have HO := Lib.hid (open_ok w9 (k : Int) 1 a8 c8 _ hrp)
                          obtain ⟨EO, hEO⟩ : ∃ EO, EO = openE (k : Int) 1 ((u.l ++ [(⟨1 + (q : Int), xs, xa, xc⟩ : Pt)]).map pv) := ⟨_, rfl⟩
                          have HEO := Lib.hid hEO
                          clear hEO
                          rw [List.length_append, List.length_singleton] at HO
                          obtain ⟨v0, v1, v2, v3, v4, vz⟩ := blk5 HTW9.out.blk
                          have v2' : w9.cell? ⟨u.tb, 2, none⟩ = some (.slice a8 (u.l ++ [(⟨1 + (q : Int), xs, xa, xc⟩ : Pt)]).length c8) := v2
                          rw [List.length_append, List.length_singleton] at v2'
                          clear hrp v0 v1 v2 v3 v4 f0 f1 f2 f3 f4 fz r0 r1 r2 r3 r4 y2' y4' yz HPM HTU HW9 HOP
                          go_upto_region 34 with (go_at_call 8; refine HO.out.mono ?_; rintro e w10 ⟨eo, eoc, es, rfl, hoe, hb10⟩; rw [← HEO.out]; have HB109 := Lib.hid hb10; have HS10 := Lib.hid (HS9.out.below hb10); have HB10 := Lib.hid (below_step HB9.out hb10); have HOE := Lib.hid hoe; have HTW10 := Lib.hid (⟨hp_step HTW9.out.blk hb10, HTW9.out.lo, HTW9.out.prs.below hb10, HTW9.out.pro.below hb10, HTW9.out.fit⟩ : TwAt w10 w.heap.size _); clear hoe hb10)
                          have HN9 := Lib.hid (show u.l.length + 1 ≤ m + 1 from by have := HS7.out.cnt.2 u hu7; omega)
                          clear HS7 HD7 HO
                          by_cases hEO : EO = 0
                          · have t6 : (EO == 0) = true := by simpa using hEO
                            have hop : openE (k : Int) 1 ((u.l ++ [(⟨1 + (q : Int), xs, xa, xc⟩ : Pt)]).map pv) = 0 := by rw [← HEO.out]; exact hEO
                            obtain ⟨w11, hw11⟩ : ∃ w11, w11 = (w10.setCell ⟨u.tb, 4, none⟩ (.bool true)).setCell ⟨u.tb, 3, none⟩ (.slice eo es.length eoc) := ⟨_, rfl⟩
                            obtain ⟨htw11, hk11⟩ := tw_lead HTW10.out (HOE.out.own.mono HB9.out.size) HOE.out.len
                            rw [← hw11] at htw11 hk11
                            have hk911 : Keep (Own3 (⟨u.tb, u.r, u.n, a8, c8, u.l ++ [⟨1 + (q : Int), xs, xa, xc⟩], u.ea, u.ec, u.es, u.leads⟩ : Tw)) w9 w11 := (Keep.of_below HB109.out).trans hk11
                            have hli : ix < (us.set ix (⟨u.tb, u.r, u.n, a8, c8, u.l ++ [⟨1 + (q : Int), xs, xa, xc⟩], u.ea, u.ec, u.es, u.leads⟩ : Tw)).length := by rw [List.length_set]; exact hixl
                            have hge : (us.set ix (⟨u.tb, u.r, u.n, a8, c8, u.l ++ [⟨1 + (q : Int), xs, xa, xc⟩], u.ea, u.ec, u.es, u.leads⟩ : Tw))[ix] = (⟨u.tb, u.r, u.n, a8, c8, u.l ++ [⟨1 + (q : Int), xs, xa, xc⟩], u.ea, u.ec, u.es, u.leads⟩ : Tw) := List.getElem_set_self _
                            have HS11 := Lib.hid (HS9.out.turn_step (i := ix) hli (Nat.le_refl _) htw11 (by rw [hge]) (by rw [hge]; exact Near.refl _ _) (by rw [hge]; exact fun g hg => .inr (own_from HOE.out.own.row g hg).1) ⟨by rw [List.length_append, List.length_singleton]; exact HN9.out, by have h1 := openL_len hop; rw [← HOE.out.data, List.length_map] at h1; show es.length ≤ 1024 + (m + 1); omega⟩ (by rw [hge]; exact hk911))
                            have HD11 := Lib.hid (HD9.out.lead (i := ix) hli (by rw [hge]; exact hld) (by rw [hge]; exact hop) (by rw [hge]; exact fun p hp v hv => ((HTW9.out.prs.own p hp).fit v hv).2.1) (u := ⟨u.tb, u.r, u.n, a8, c8, u.l ++ [⟨1 + (q : Int), xs, xa, xc⟩], eo, eoc, es, true⟩) (by rw [hge]; exact ⟨rfl, rfl, rfl, rfl⟩) (by rw [hge]; exact HOE.out.data))
                            have HB11 := Lib.hid (keep_below HB10.out hk11 (fun g hg hs => by
                              rcases hs with hs | hs | hs
                              · have := HTW9.out.lo; have hs : g = u.tb := hs; omega
                              · have := (own_from HTW9.out.prs.row g hs).1; omega
                              · have := (own_from HTW9.out.pro.row g hs).1; omega))
                            obtain ⟨v0, v1, v2, v3, v4, vz⟩ := blk5 HTW10.out.blk
                            obtain ⟨r0, r1, r2, r3, r4⟩ := blk5f HTW10.out.blk
                            have HW11 := Lib.hid hw11
                            clear hop htw11 hk11 hk911 hge hw11 hEO HOE HTW10 HTW9 HS10 HS9 HD9 HB9 HB10
                            as_aux_lemma =>
                              go_wp2_with fail
                              rw [← HW11.out]
                              go_meet
                              case rel => exact ⟨_, _, by rw [List.length_set, List.length_set], HS11, HD11, HB11⟩
                          · have t6 : (EO == 0) = false := by simpa using hEO
                            have hmin : 2 * ((u.l.length : Int) + 1) ≤ (k : Int) := by
                              refine Classical.byContradiction fun hn => hEO ?_
                              have h1 := HD9.out.opens (u := ⟨u.tb, u.r, u.n, a8, c8, u.l ++ [⟨1 + (q : Int), xs, xa, xc⟩], u.ea, u.ec, u.es, u.leads⟩) (List.mem_iff_getElem.2 ⟨ix, by rw [List.length_set]; exact hixl, List.getElem_set_self _⟩) (by rw [List.length_append, List.length_singleton]; omega)
                              rw [HEO.out]; exact h1
                            have t7 : IntKind.i64.wrap (2 * ((u.l.length : Int) + 1)) = 2 * ((u.l.length : Int) + 1) := IntWalk.i64_in _ (by omega)
                            have t8 : decide ((k : Int) < 2 * ((u.l.length : Int) + 1)) = false := decide_eq_false (by omega)
                            have t9 : ¬ ((k : Int) < 2 * ((u.l.length : Int) + 1)) := by omega
                            obtain ⟨v0, v1, v2, v3, v4, vz⟩ := blk5 HTW10.out.blk
                            have v2' : w10.cell? ⟨u.tb, 2, none⟩ = some (.slice a8 (u.l ++ [(⟨1 + (q : Int), xs, xa, xc⟩ : Pt)]).length c8) := v2
                            rw [List.length_append, List.length_singleton] at v2'
                            clear v0 v1 v2 v3 v4 hEO HOE HTW10 HTW9 HS9 HB9 hmin
                            as_aux_lemma =>
                              go_wp2_with fail
                              go_meet
                              case rel => exact ⟨_, _, by rw [List.length_set], HS10, HD9, HB10⟩
                  · have t4 : (E != 0) = true := by simpa using hE0
                    as_aux_lemma =>
                      go_wp2_with fail
                      go_roundw
                      case rel => exact ⟨m + 1, _, us, _, tc, ca, cc, ch, hREL.out.1, hREL.out.2, by go_num, rfl, rfl, HS7.out.more (Nat.le_succ m), HD7, HC9, HB7⟩
                      case measure => simp [RowKit.intOf]; omega
                · have t3 : (v.kind == 2) = false := by simpa using hk2
                  have hixu : us[ix] ∈ us := List.getElem_mem hixl
                  rw [← HU.out] at hixu
                  have htu := HSm.out.tw u hixu
                  have hcu := HSm.out.cnt.2 u hixu
                  obtain ⟨y0, y1, y2, y3, y4, yz⟩ := blk5 htu.blk
                  have y0' : wm.cell? ⟨u.tb, 0, none⟩ = some (.int .i64 u.r) := y0
                  have y1' : wm.cell? ⟨u.tb, 1, none⟩ = some (.int .i64 u.n) := y1
                  have y3' : wm.cell? ⟨u.tb, 3, none⟩ = some (.slice u.ea u.es.length u.ec) := y3
                  have y4' : wm.cell? ⟨u.tb, 4, none⟩ = some (.bool u.leads) := y4
                  have HPR := Lib.hid (proposal_ok wm w.heap.size u (1 + (q4 : Int)) htu (by omega))
                  have HTU := Lib.hid htu
                  have HREL : Hid (∃ (As2 : List AS) (us2 : List Tw), us2.length = us.length ∧ Hid (chsm.Sys wm w.heap.size (m + 1) bs As2 us2 (some ⟨gm, 0, none⟩) mc (some ⟨gt, 0, none⟩) tc ca cc ch) ∧ Hid (Dat k As2 us2 ch) ∧ Hid (Below w.heap.size w wm)) := ⟨As, us, rfl, HSm.out.more (Nat.le_succ m), HD, HBm⟩
                  clear y0 y1 y2 y3 y4 htu
                  by_cases hk3 : v.kind = 3
                  · have t5 : (v.kind == 3) = true := by simp [hk3]
                    clear hk3 x0 y3'
                    cases hlk : chsf.look (u.es.map le) (1 + (q4 : Int)) with
                    | none =>
                      have HPN := Lib.hid (prop_none HPR.out hlk)
                      clear HPR hlk
                      cases hld : u.leads with
                      | true =>
                        rw [hld] at y4'
                        as_aux_lemma =>
                          go_wp2_with (go_at_call 24; refine HPN.out.mono ?_; rintro e w8 ⟨rfl, e8⟩; obtain rfl := e8.symm; clear e8)
                          go_meet
                          case rel => exact HREL
                      | false =>
                        rw [hld] at y4'
                        as_aux_lemma =>
                          go_wp2_with (go_at_call 24; refine HPN.out.mono ?_; rintro e w8 ⟨rfl, e8⟩; obtain rfl := e8.symm; clear e8)
                          go_meet
                          case rel => exact HREL
                    | some d =>
                      have HPS := Lib.hid (prop_some HPR.out hlk)
                      have HLK := Lib.hid hlk
                      clear HPR hlk
                      cases hld : u.leads with
                      | false =>
                        rw [hld] at y4'
                        as_aux_lemma =>
                          go_wp2_with (go_at_call 24; refine HPS.out.mono ?_; rintro e w8 ⟨⟨t, ht, rfl, hts, htl⟩, e8⟩; obtain rfl := e8.symm; clear e8)
                          go_meet
                          case rel => exact HREL
                      | true =>
                        have hqA : q < As.length := by rw [← HSm.out.len]; exact hqb
                        have hacc := HSm.out.acc q hqb hqA
                        rw [← HBQ.out] at hacc
                        have HACC := Lib.hid hacc
                        have hwmz := HBm.out.size
                        rw [hld] at y4'
                        have HLD := Lib.hid hld
                        clear hacc hld
                        as_aux_lemma =>
                          go_upto_region 40 with (go_at_call 24; refine HPS.out.mono ?_; rintro e w8 ⟨⟨t, ht, rfl, hts, htl⟩, e8⟩; obtain rfl := e8.symm; clear e8)
                          have hA := accept_ok wm w.heap.size b.1 b.2 As[q] ⟨1 + (q4 : Int), u.r, u.n, t.l, t.a, t.c⟩ HACC.out hwmz (by
                            obtain ⟨h2, h3⟩ := body_lie (v := ⟨1 + (q4 : Int), u.r, u.n, t.l, t.a, t.c⟩) (HTU.out.pro.body t ht)
                            exact ⟨h2, h3, by have := HTU.out.fit t ht; show t.l.length ≤ _; omega⟩) (by show -9223372036854775808 ≤ 1 + (q4 : Int); omega) (by show 1 + (q4 : Int) ≤ 9223372036854775807; omega)
                          have hd9 := HD.out.vote (i := ix) hixl (by rw [← HU.out]; exact HLD.out) (s := 1 + (q4 : Int)) (d := t.l) (by rw [← HU.out, HLK.out, htl]) (by omega) hqA
                          rw [← HU.out] at hd9
                          simp only [Vt.val, lv] at hA
                          obtain ⟨S, hS⟩ : ∃ S, S = accS As[q] ⟨1 + (q4 : Int), u.r, u.n, t.l⟩ := ⟨_, rfl⟩
                          obtain ⟨E, hE⟩ : ∃ E, E = accE As[q].r As[q].n As[q].first ⟨1 + (q4 : Int), u.r, u.n, t.l⟩ := ⟨_, rfl⟩
                          rw [← hS] at hA hd9
                          rw [← hE] at hA
                          have HA := Lib.hid hA
                          have HD9 := Lib.hid hd9
                          clear hA hd9 hS hE ht hts htl
                          go_wp2_with (go_at_call 25; refine HA.out.mono ?_; rintro e w9 ⟨rfl, hA9, hk9⟩; have HS9 := Lib.hid ((HSm.out.acc_step hqb (by rw [← HBQ.out]; exact hA9) (by rw [← HBQ.out]; exact hk9)).more (Nat.le_succ m)); have HB9 := Lib.hid (keep_below HBm.out hk9 (fun g hg hs => by have h5 := acc_lo HACC.out; rcases hs with hs | hs <;> omega)); clear hA9 hk9)
                          go_meet
                          case rel => exact ⟨_, us, rfl, HS9, HD9, HB9⟩
                  · have t5 : (v.kind == 3) = false := by simpa using hk3
                    obtain ⟨z0, z1, z2, z3, z4, zz⟩ := blk5 HN5.out
                    clear hk3 z0 z1 z2 z3 y0' y1' x0
                    cases hlk : chsf.look (u.es.map le) (1 + (q4 : Int)) with
                    | some d =>
                      have HPS := Lib.hid (prop_some HPR.out hlk)
                      clear HPR hlk
                      cases hld : u.leads with
                      | true =>
                        rw [hld] at y4'
                        as_aux_lemma =>
                          go_wp2_with (go_at_call 24; refine HPS.out.mono ?_; rintro e w8 ⟨⟨t, ht, rfl, hts, htl⟩, e8⟩; obtain rfl := e8.symm; clear e8)
                          go_meet
                          case rel => exact HREL
                      | false =>
                        rw [hld] at y4'
                        as_aux_lemma =>
                          go_wp2_with (go_at_call 24; refine HPS.out.mono ?_; rintro e w8 ⟨⟨t, ht, rfl, hts, htl⟩, e8⟩; obtain rfl := e8.symm; clear e8)
                          go_meet
                          case rel => exact HREL
                    | none =>
                      have HPN := Lib.hid (prop_none HPR.out hlk)
                      clear HPR hlk
                      cases hld : u.leads with
                      | false =>
                        rw [hld] at y4'
                        as_aux_lemma =>
                          go_wp2_with (go_at_call 24; refine HPN.out.mono ?_; rintro e w8 ⟨rfl, e8⟩; obtain rfl := e8.symm; clear e8)
                          go_meet
                          case rel => exact HREL
                      | true =>
                        rw [hld] at y4'
                        have HLD := Lib.hid hld
                        clear hld
                        as_aux_lemma =>
                          go_upto_region 28 with (go_at_call 24; refine HPN.out.mono ?_; rintro e w8 ⟨rfl, e8⟩; obtain rfl := e8.symm; clear e8)
                          obtain ⟨y0, y1, y2, y3, y4, yz⟩ := blk5 HTU.out.blk
                          obtain ⟨w2, hw2⟩ : ∃ w2, w2 = wm.drew.alloc (.cells #[.int .u8 (v.val : Int)] 5) := ⟨_, rfl⟩
                          have hb2 : Below wm.heap.size wm w2 := by rw [hw2]; exact below_step (below_drewN (Below.refl _ wm) 1) (below_new1 wm.drew _)
                          have hwz := HBm.out.size
                          have hs2 : w2.heap.size = wm.heap.size + 1 := by rw [hw2, size_new]; rfl
                          have hbr : w2.ownsRow w.heap.size 5 1 (.slice (some ⟨wm.heap.size, 0, none⟩) 1 1) 1 (bcells [v.val]) := by
                            rw [hw2]; exact World.ownsRow_lit wm.drew _ 1 hwz (by unfold maxLen; omega) rfl
                          have HBR := Lib.hid hbr
                          have HS2 := Lib.hid (HSm.out.below hb2)
                          have HTU2 := Lib.hid (HS2.out.tw u hixu)
                          have HB2 := Lib.hid (below_step HBm.out hb2)
                          have HW2 := Lib.hid hw2
                          have HSZ2 := Lib.hid hs2
                          have y3' : wm.cell? ⟨u.tb, 3, none⟩ = some (.slice u.ea u.es.length u.ec) := y3
                          have x4' := x4
                          have hfin : ∀ (w5 : World) (a5 : Option Addr) (c5 : Nat), w5.ownsRow w.heap.size 39 2 (.slice a5 (u.es.length + 1) c5) (u.es.length + 1) (u.es.flatMap Et.cells ++ (⟨1 + (q4 : Int), [v.val], some ⟨wm.heap.size, 0, none⟩, 1⟩ : Et).cells) → (w2.alloc (.cells #[.int .i64 (1 + (q4 : Int)), .slice (some ⟨wm.heap.size, 0, none⟩) 1 1] 39)).grownBy w5 (Value.slice u.ea u.es.length u.ec).ownBlock → (∀ k, (Value.slice a5 (u.es.length + 1) c5).ownBlock = some k → (Value.slice u.ea u.es.length u.ec).ownBlock = some k ∨ (w2.alloc (.cells #[.int .i64 (1 + (q4 : Int)), .slice (some ⟨wm.heap.size, 0, none⟩) 1 1] 39)).heap.size ≤ k) →
                              ((∃ (As2 : List AS) (us2 : List Tw), us2.length = us.length ∧ Hid (chsm.Sys (w5.setCell ⟨u.tb, 3, none⟩ (.slice a5 (u.es.length + 1) c5)) w.heap.size (m + 1) bs As2 us2 (some ⟨gm, 0, none⟩) mc (some ⟨gt, 0, none⟩) tc ca cc ch) ∧ Hid (Dat k As2 us2 ch) ∧ Hid (Below w.heap.size w (w5.setCell ⟨u.tb, 3, none⟩ (.slice a5 (u.es.length + 1) c5))))) ∧ (∃ v, w5.cell? ⟨u.tb, 3, none⟩ = some v) ∧ w5.frozen? ⟨u.tb, 3, none⟩ = false := by
                            intro w5 a5 c5 hown hgr hat
                            have hkr := keep_row (below_new1 w2 (.cells #[.int .i64 (1 + (q4 : Int)), .slice (some ⟨wm.heap.size, 0, none⟩) 1 1] 39)) (HTU2.out.pro.row.alloc _) hgr
                            obtain ⟨hb5, htw, hk5⟩ := tw_propose (e := ⟨1 + (q4 : Int), [v.val], some ⟨wm.heap.size, 0, none⟩, 1⟩) HTU2.out HBR.out (by simp) hkr hown
                            have hnear : Near w2 u.ea a5 := fun g hg => by
                              subst hg
                              rcases hat g rfl with e | e
                              · exact .inl (own_block (HTU2.out.pro.row) g e)
                              · rw [size_new] at e; exact .inr (by omega)
                            have hcu := HSm.out.cnt.2 u hixu
                            refine ⟨⟨As, us.set ix ⟨u.tb, u.r, u.n, u.a, u.c, u.l, a5, c5, u.es ++ [⟨1 + (q4 : Int), [v.val], some ⟨wm.heap.size, 0, none⟩, 1⟩], u.leads⟩, by rw [List.length_set], HS2.out.turn_step (i := ix) hixl (Nat.le_succ m) htw (by rw [← HU.out]) (by rw [← HU.out]; exact Near.refl _ _) (by rw [← HU.out]; exact hnear) ⟨by show u.l.length ≤ m + 1; omega, by rw [List.length_append, List.length_singleton]; omega⟩ (by rw [← HU.out]; exact hk5), ?_, keep_below HB2.out hk5 (fun g hg hs => by
                              rcases hs with hs | hs | hs
                              · have := HTU2.out.lo; omega
                              · have := (own_from HTU2.out.prs.row g hs).1; omega
                              · have := (own_from HTU2.out.pro.row g hs).1; omega)⟩, ?_⟩
                            · exact HD.out.propose (i := ix) hixl (by rw [← HU.out]; exact HLD.out) (e := ⟨1 + (q4 : Int), [v.val], some ⟨wm.heap.size, 0, none⟩, 1⟩) (fun z hz => by rw [List.mem_singleton.1 hz]; exact hv256) (by rw [← HU.out]; exact ⟨rfl, rfl, rfl, HLD.out, rfl⟩)
                            · obtain ⟨z0, z1, z2, z3, z4, zz⟩ := blk5 hb5
                              obtain ⟨r0, r1, r2, r3, r4⟩ := blk5f hb5
                              exact ⟨⟨_, z3⟩, r3⟩
                          have HFIN := Lib.hid hfin
                          have HO := Lib.hid (own_below HTU.out.pro.row (below_drewN (Below.refl _ wm) 1))
                          have hue : u.es.length ≤ 1024 + m := by have := HSm.out.cnt.2 u hixu; omega
                          have HLIE := Lib.hid (show Lie ((wm.drew.alloc (.cells #[.int .u8 (v.val : Int)] 5)).alloc (.cells #[.int .i64 (1 + (q4 : Int)), .slice (some ⟨wm.heap.size, 0, none⟩) 1 1] 39)) (some ⟨wm.heap.size + 1, 0, none⟩) [.int .i64 (1 + (q4 : Int)), .slice (some ⟨wm.heap.size, 0, none⟩) 1 1] from by
                            rw [← hw2, ← hs2]; exact lie_new2 w2 _ _ _)
                          have HOWN := Lib.hid ((HO.out.alloc (.cells #[.int .u8 (v.val : Int)] 5)).alloc (.cells #[.int .i64 (1 + (q4 : Int)), .slice (some ⟨wm.heap.size, 0, none⟩) 1 1] 39))
                          have HSZ := Lib.hid (show w.heap.size ≤ ((wm.drew.alloc (.cells #[.int .u8 (v.val : Int)] 5)).alloc (.cells #[.int .i64 (1 + (q4 : Int)), .slice (some ⟨wm.heap.size, 0, none⟩) 1 1] 39)).heap.size from by rw [← hw2, size_new, hs2]; omega)
                          have e3 : ∀ o : Obj, (wm.drew.alloc o).cell? ⟨u.tb, 3, none⟩ = some (.slice u.ea u.es.length u.ec) := fun o => cell_step (W := wm.drew) y3' (below_new1 _ o)
                          have e4 : ∀ o o' : Obj, ((wm.drew.alloc o).alloc o').cell? ⟨u.tb, 3, none⟩ = some (.slice u.ea u.es.length u.ec) := fun o o' => cell_step (e3 o) (below_new1 _ o')
                          clear hw2 hb2 hs2 hbr hfin y0 y1 y2 y3 y4 hixu
                          refine wp_region_held_drew (S := (fun w' => True)) (by kernel_rfl) trivial (fun hHeld => ?_)
                          refine kit6.take_y (i := 0) (v := ?_) rfl (by kernel_rfl) (by kernel_rfl) (by kernel_rfl) (fun _ _ _ h => h) (by rfl) (by assumption) ?_ ?_
                          rotate_left
                          · intro w hSw
                            try dsimp only at hSw
                            go_simp
                            try with_reducible rfl
                          try simp only [Act.put, List.setIfInBounds_toArray, List.set_cons_zero, List.set_cons_succ]
                          refine kit6.take_y (i := 1) (v := ?_) rfl (by kernel_rfl) (by kernel_rfl) (by kernel_rfl) (fun _ _ _ h => h) (by rfl) (by assumption) ?_ ?_
                          rotate_left
                          · intro w hSw
                            try dsimp only at hSw
                            go_simp
                            try with_reducible rfl
                          try simp only [Act.put, List.setIfInBounds_toArray, List.set_cons_zero, List.set_cons_succ]
                          refine kit6.take_y (i := 2) (v := ?_) rfl (by kernel_rfl) (by kernel_rfl) (by kernel_rfl) (fun _ _ _ h => h) (by rfl) (by assumption) ?_ ?_
                          rotate_left
                          · intro w hSw
                            try dsimp only at hSw
                            go_simp
                            try with_reducible rfl
                          try simp only [Act.put, List.setIfInBounds_toArray, List.set_cons_zero, List.set_cons_succ]
                          refine kit6.take_y (i := 3) (v := ?_) rfl (by kernel_rfl) (by kernel_rfl) (by kernel_rfl) (fun _ _ _ h => h) (by rfl) (by assumption) ?_ ?_
                          rotate_left
                          · intro w hSw
                            try dsimp only at hSw
                            go_simp
                            try with_reducible rfl
                          try simp only [Act.put, List.setIfInBounds_toArray, List.set_cons_zero, List.set_cons_succ]
                          refine kit6.take_y (i := 5) (v := ?_) rfl (by kernel_rfl) (by kernel_rfl) (by kernel_rfl) (fun _ _ _ h => h) (by rfl) (by assumption) ?_ ?_
                          rotate_left
                          · intro w hSw
                            try dsimp only at hSw
                            go_simp
                            try with_reducible rfl
                          try simp only [Act.put, List.setIfInBounds_toArray, List.set_cons_zero, List.set_cons_succ]
                          refine kit6.take_y (i := 6) (v := ?_) rfl (by kernel_rfl) (by kernel_rfl) (by kernel_rfl) (fun _ _ _ h => h) (by rfl) (by assumption) ?_ ?_
                          rotate_left
                          · intro w hSw
                            try dsimp only at hSw
                            go_simp
                            try with_reducible rfl
                          try simp only [Act.put, List.setIfInBounds_toArray, List.set_cons_zero, List.set_cons_succ]
                          refine wpAnyH_ready (rs := [4, 7]) (by kernel_rfl) (by simp) ?_
                          refine kit6.cons_l (i := 4) rfl (by rfl) (fun K hK => ?_) ?_
                          · go_simp
                            refine hK.out _ _ trivial (fun hHeld => ?_)
                            clear hK K
                            try simp only [Act.put, List.setIfInBounds_toArray, List.set_cons_zero, List.set_cons_succ]
                            refine wpAnyH_ready (rs := [7]) (by kernel_rfl) (by simp) ?_
                            refine kit6.cons_l (i := 7) rfl (by rfl) (fun K hK => ?_) AllReadyH.nil
                            go_simp
                            refine hK.out _ _ trivial (fun hHeld => ?_)
                            clear hK K
                            try simp only [Act.put, List.setIfInBounds_toArray, List.set_cons_zero, List.set_cons_succ]
                            refine wpAnyH_ready (rs := [8]) (by kernel_rfl) (by simp) ?_
                            refine kit6.cons_l (i := 8) rfl (by rfl) (fun K hK => ?_) AllReadyH.nil
                            go_simp
                            refine hK.out _ _ trivial (fun hHeld => ?_)
                            clear hK K
                            try simp only [Act.put, List.setIfInBounds_toArray, List.set_cons_zero, List.set_cons_succ]
                            refine kit6.take_y (i := 9) (v := ?_) rfl (by kernel_rfl) (by kernel_rfl) (by kernel_rfl) (fun _ _ _ h => h) (by rfl) (by assumption) ?_ ?_
                            rotate_left
                            · intro w hSw
                              try dsimp only at hSw
                              go_simp
                              try with_reducible rfl
                            try simp only [Act.put, List.setIfInBounds_toArray, List.set_cons_zero, List.set_cons_succ]
                            refine wpAnyH_ready (rs := [10]) (by kernel_rfl) (by simp) ?_
                            refine kit6.cons_l (i := 10) rfl (by rfl) (fun K hK => ?_) AllReadyH.nil
                            go_simp
                            refine hK.out _ _ trivial (fun hHeld => ?_)
                            clear hK K
                            try simp only [Act.put, List.setIfInBounds_toArray, List.set_cons_zero, List.set_cons_succ]
                            refine wpAnyH_ready (rs := [11]) (by kernel_rfl) (by simp) ?_
                            refine kit6.cons_l (i := 11) rfl (by rfl) (fun K hK => ?_) AllReadyH.nil
                            refine oper_append_at (.tmp 146) (.tmp 152) 24 rfl w.heap.size 39 je _ 2 32 Try.underlying24 hje he0 he1 he2 rfl (by decide) (.slice u.ea u.es.length u.ec) u.es.length (u.es.flatMap Et.cells) rfl HOWN.out ⟨wm.heap.size + 1, 0, none⟩ 1 1 [.int .i64 (1 + (q4 : Int)), .slice (some ⟨wm.heap.size, 0, none⟩) 1 1] rfl rfl HLIE.out (by simp [Value.oneCell']) (by unfold maxLen; omega) (by omega) HSZ.out ?_
                            intro v5 w5 hown hgr hat5
                            obtain ⟨a5, c5, rfl⟩ := own_shape hown
                            have hgr6 : (w2.alloc (.cells #[.int .i64 (1 + (q4 : Int)), .slice (some ⟨wm.heap.size, 0, none⟩) 1 1] 39)).grownBy w5 (Value.slice u.ea u.es.length u.ec).ownBlock := by rw [HW2.out]; exact hgr
                            have hat6 : ∀ k, (Value.slice a5 (u.es.length + 1) c5).ownBlock = some k → (Value.slice u.ea u.es.length u.ec).ownBlock = some k ∨ (w2.alloc (.cells #[.int .i64 (1 + (q4 : Int)), .slice (some ⟨wm.heap.size, 0, none⟩) 1 1] 39)).heap.size ≤ k := fun k hk => (hat5 k hk).imp id (fun e => by rw [HW2.out]; exact e)
                            obtain ⟨hF1, ⟨vo, hF3⟩, hF4⟩ := HFIN.out w5 _ _ hown hgr6 hat6
                            have HF := Lib.hid hF1
                            clear hF1 hown hgr hat5 hgr6 hat6
                            dsimp only
                            refine hK.out _ _ trivial (fun hHeld => ?_)
                            clear hK K
                            try simp only [Act.put, List.setIfInBounds_toArray, List.set_cons_zero, List.set_cons_succ]
                            refine kit6.take_y (i := 12) (v := ?_) rfl (by kernel_rfl) (by kernel_rfl) (by kernel_rfl) (fun _ _ _ h => h) (by rfl) (by assumption) ?_ ?_
                            rotate_left
                            · intro w hSw
                              try dsimp only at hSw
                              go_simp
                              try with_reducible rfl
                            try simp only [Act.put, List.setIfInBounds_toArray, List.set_cons_zero, List.set_cons_succ]
                            refine kit6.take_y (i := 13) (v := ?_) rfl (by kernel_rfl) (by kernel_rfl) (by kernel_rfl) (fun _ _ _ h => h) (by rfl) (by assumption) ?_ ?_
                            rotate_left
                            · intro w hSw
                              try dsimp only at hSw
                              go_simp
                              try with_reducible rfl
                            try simp only [Act.put, List.setIfInBounds_toArray, List.set_cons_zero, List.set_cons_succ]
                            refine wpAnyH_ready (rs := [14]) (by kernel_rfl) (by simp) ?_
                            refine kit6.cons_l (i := 14) rfl (by rfl) (fun K hK => ?_) AllReadyH.nil
                            go_simp
                            refine hK.out _ _ trivial (fun hHeld => ?_)
                            clear hK K
                            try simp only [Act.put, List.setIfInBounds_toArray, List.set_cons_zero, List.set_cons_succ]
                            refine wpAnyH_done (by kernel_rfl) ?_ _
                            go_wp2_with fail
                            go_meet
                            case rel => exact HF.out
                          refine kit6.cons_l (i := 7) rfl (by rfl) (fun K hK => ?_) AllReadyH.nil
                          go_simp
                          refine hK.out _ _ trivial (fun hHeld => ?_)
                          clear hK K
                          try simp only [Act.put, List.setIfInBounds_toArray, List.set_cons_zero, List.set_cons_succ]
                          refine wpAnyH_ready (rs := [4, 8]) (by kernel_rfl) (by simp) ?_
                          refine kit6.cons_l (i := 4) rfl (by rfl) (fun K hK => ?_) ?_
                          · go_simp
                            refine hK.out _ _ trivial (fun hHeld => ?_)
                            clear hK K
                            try simp only [Act.put, List.setIfInBounds_toArray, List.set_cons_zero, List.set_cons_succ]
                            refine wpAnyH_ready (rs := [8]) (by kernel_rfl) (by simp) ?_
                            refine kit6.cons_l (i := 8) rfl (by rfl) (fun K hK => ?_) AllReadyH.nil
                            go_simp
                            refine hK.out _ _ trivial (fun hHeld => ?_)
                            clear hK K
                            try simp only [Act.put, List.setIfInBounds_toArray, List.set_cons_zero, List.set_cons_succ]
                            refine kit6.take_y (i := 9) (v := ?_) rfl (by kernel_rfl) (by kernel_rfl) (by kernel_rfl) (fun _ _ _ h => h) (by rfl) (by assumption) ?_ ?_
                            rotate_left
                            · intro w hSw
                              try dsimp only at hSw
                              go_simp
                              try with_reducible rfl
                            try simp only [Act.put, List.setIfInBounds_toArray, List.set_cons_zero, List.set_cons_succ]
                            refine wpAnyH_ready (rs := [10]) (by kernel_rfl) (by simp) ?_
                            refine kit6.cons_l (i := 10) rfl (by rfl) (fun K hK => ?_) AllReadyH.nil
                            go_simp
                            refine hK.out _ _ trivial (fun hHeld => ?_)
                            clear hK K
                            try simp only [Act.put, List.setIfInBounds_toArray, List.set_cons_zero, List.set_cons_succ]
                            refine wpAnyH_ready (rs := [11]) (by kernel_rfl) (by simp) ?_
                            refine kit6.cons_l (i := 11) rfl (by rfl) (fun K hK => ?_) AllReadyH.nil
                            refine oper_append_at (.tmp 146) (.tmp 152) 24 rfl w.heap.size 39 je _ 2 32 Try.underlying24 hje he0 he1 he2 rfl (by decide) (.slice u.ea u.es.length u.ec) u.es.length (u.es.flatMap Et.cells) rfl HOWN.out ⟨wm.heap.size + 1, 0, none⟩ 1 1 [.int .i64 (1 + (q4 : Int)), .slice (some ⟨wm.heap.size, 0, none⟩) 1 1] rfl rfl HLIE.out (by simp [Value.oneCell']) (by unfold maxLen; omega) (by omega) HSZ.out ?_
                            intro v5 w5 hown hgr hat5
                            obtain ⟨a5, c5, rfl⟩ := own_shape hown
                            have hgr6 : (w2.alloc (.cells #[.int .i64 (1 + (q4 : Int)), .slice (some ⟨wm.heap.size, 0, none⟩) 1 1] 39)).grownBy w5 (Value.slice u.ea u.es.length u.ec).ownBlock := by rw [HW2.out]; exact hgr
                            have hat6 : ∀ k, (Value.slice a5 (u.es.length + 1) c5).ownBlock = some k → (Value.slice u.ea u.es.length u.ec).ownBlock = some k ∨ (w2.alloc (.cells #[.int .i64 (1 + (q4 : Int)), .slice (some ⟨wm.heap.size, 0, none⟩) 1 1] 39)).heap.size ≤ k := fun k hk => (hat5 k hk).imp id (fun e => by rw [HW2.out]; exact e)
                            obtain ⟨hF1, ⟨vo, hF3⟩, hF4⟩ := HFIN.out w5 _ _ hown hgr6 hat6
                            have HF := Lib.hid hF1
                            clear hF1 hown hgr hat5 hgr6 hat6
                            dsimp only
                            refine hK.out _ _ trivial (fun hHeld => ?_)
                            clear hK K
                            try simp only [Act.put, List.setIfInBounds_toArray, List.set_cons_zero, List.set_cons_succ]
                            refine kit6.take_y (i := 12) (v := ?_) rfl (by kernel_rfl) (by kernel_rfl) (by kernel_rfl) (fun _ _ _ h => h) (by rfl) (by assumption) ?_ ?_
                            rotate_left
                            · intro w hSw
                              try dsimp only at hSw
                              go_simp
                              try with_reducible rfl
                            try simp only [Act.put, List.setIfInBounds_toArray, List.set_cons_zero, List.set_cons_succ]
                            refine kit6.take_y (i := 13) (v := ?_) rfl (by kernel_rfl) (by kernel_rfl) (by kernel_rfl) (fun _ _ _ h => h) (by rfl) (by assumption) ?_ ?_
                            rotate_left
                            · intro w hSw
                              try dsimp only at hSw
                              go_simp
                              try with_reducible rfl
                            try simp only [Act.put, List.setIfInBounds_toArray, List.set_cons_zero, List.set_cons_succ]
                            refine wpAnyH_ready (rs := [14]) (by kernel_rfl) (by simp) ?_
                            refine kit6.cons_l (i := 14) rfl (by rfl) (fun K hK => ?_) AllReadyH.nil
                            go_simp
                            refine hK.out _ _ trivial (fun hHeld => ?_)
                            clear hK K
                            try simp only [Act.put, List.setIfInBounds_toArray, List.set_cons_zero, List.set_cons_succ]
                            refine wpAnyH_done (by kernel_rfl) ?_ _
                            go_wp2_with fail
                            go_meet
                            case rel => exact HF.out
                          refine kit6.cons_l (i := 8) rfl (by rfl) (fun K hK => ?_) AllReadyH.nil
                          go_simp
                          refine hK.out _ _ trivial (fun hHeld => ?_)
                          clear hK K
                          try simp only [Act.put, List.setIfInBounds_toArray, List.set_cons_zero, List.set_cons_succ]
                          refine kit6.take_y (i := 9) (v := ?_) rfl (by kernel_rfl) (by kernel_rfl) (by kernel_rfl) (fun _ _ _ h => h) (by rfl) (by assumption) ?_ ?_
                          rotate_left
                          · intro w hSw
                            try dsimp only at hSw
                            go_simp
                            try with_reducible rfl
                          try simp only [Act.put, List.setIfInBounds_toArray, List.set_cons_zero, List.set_cons_succ]
                          refine wpAnyH_ready (rs := [4, 10]) (by kernel_rfl) (by simp) ?_
                          refine kit6.cons_l (i := 4) rfl (by rfl) (fun K hK => ?_) ?_
                          · go_simp
                            refine hK.out _ _ trivial (fun hHeld => ?_)
                            clear hK K
                            try simp only [Act.put, List.setIfInBounds_toArray, List.set_cons_zero, List.set_cons_succ]
                            refine wpAnyH_ready (rs := [10]) (by kernel_rfl) (by simp) ?_
                            refine kit6.cons_l (i := 10) rfl (by rfl) (fun K hK => ?_) AllReadyH.nil
                            go_simp
                            refine hK.out _ _ trivial (fun hHeld => ?_)
                            clear hK K
                            try simp only [Act.put, List.setIfInBounds_toArray, List.set_cons_zero, List.set_cons_succ]
                            refine wpAnyH_ready (rs := [11]) (by kernel_rfl) (by simp) ?_
                            refine kit6.cons_l (i := 11) rfl (by rfl) (fun K hK => ?_) AllReadyH.nil
                            refine oper_append_at (.tmp 146) (.tmp 152) 24 rfl w.heap.size 39 je _ 2 32 Try.underlying24 hje he0 he1 he2 rfl (by decide) (.slice u.ea u.es.length u.ec) u.es.length (u.es.flatMap Et.cells) rfl HOWN.out ⟨wm.heap.size + 1, 0, none⟩ 1 1 [.int .i64 (1 + (q4 : Int)), .slice (some ⟨wm.heap.size, 0, none⟩) 1 1] rfl rfl HLIE.out (by simp [Value.oneCell']) (by unfold maxLen; omega) (by omega) HSZ.out ?_
                            intro v5 w5 hown hgr hat5
                            obtain ⟨a5, c5, rfl⟩ := own_shape hown
                            have hgr6 : (w2.alloc (.cells #[.int .i64 (1 + (q4 : Int)), .slice (some ⟨wm.heap.size, 0, none⟩) 1 1] 39)).grownBy w5 (Value.slice u.ea u.es.length u.ec).ownBlock := by rw [HW2.out]; exact hgr
                            have hat6 : ∀ k, (Value.slice a5 (u.es.length + 1) c5).ownBlock = some k → (Value.slice u.ea u.es.length u.ec).ownBlock = some k ∨ (w2.alloc (.cells #[.int .i64 (1 + (q4 : Int)), .slice (some ⟨wm.heap.size, 0, none⟩) 1 1] 39)).heap.size ≤ k := fun k hk => (hat5 k hk).imp id (fun e => by rw [HW2.out]; exact e)
                            obtain ⟨hF1, ⟨vo, hF3⟩, hF4⟩ := HFIN.out w5 _ _ hown hgr6 hat6
                            have HF := Lib.hid hF1
                            clear hF1 hown hgr hat5 hgr6 hat6
                            dsimp only
                            refine hK.out _ _ trivial (fun hHeld => ?_)
                            clear hK K
                            try simp only [Act.put, List.setIfInBounds_toArray, List.set_cons_zero, List.set_cons_succ]
                            refine kit6.take_y (i := 12) (v := ?_) rfl (by kernel_rfl) (by kernel_rfl) (by kernel_rfl) (fun _ _ _ h => h) (by rfl) (by assumption) ?_ ?_
                            rotate_left
                            · intro w hSw
                              try dsimp only at hSw
                              go_simp
                              try with_reducible rfl
                            try simp only [Act.put, List.setIfInBounds_toArray, List.set_cons_zero, List.set_cons_succ]
                            refine kit6.take_y (i := 13) (v := ?_) rfl (by kernel_rfl) (by kernel_rfl) (by kernel_rfl) (fun _ _ _ h => h) (by rfl) (by assumption) ?_ ?_
                            rotate_left
                            · intro w hSw
                              try dsimp only at hSw
                              go_simp
                              try with_reducible rfl
                            try simp only [Act.put, List.setIfInBounds_toArray, List.set_cons_zero, List.set_cons_succ]
                            refine wpAnyH_ready (rs := [14]) (by kernel_rfl) (by simp) ?_
                            refine kit6.cons_l (i := 14) rfl (by rfl) (fun K hK => ?_) AllReadyH.nil
                            go_simp
                            refine hK.out _ _ trivial (fun hHeld => ?_)
                            clear hK K
                            try simp only [Act.put, List.setIfInBounds_toArray, List.set_cons_zero, List.set_cons_succ]
                            refine wpAnyH_done (by kernel_rfl) ?_ _
                            go_wp2_with fail
                            go_meet
                            case rel => exact HF.out
                          refine kit6.cons_l (i := 10) rfl (by rfl) (fun K hK => ?_) AllReadyH.nil
                          go_simp
                          refine hK.out _ _ trivial (fun hHeld => ?_)
                          clear hK K
                          try simp only [Act.put, List.setIfInBounds_toArray, List.set_cons_zero, List.set_cons_succ]
                          refine wpAnyH_ready (rs := [4]) (by kernel_rfl) (by simp) ?_
                          refine kit6.cons_l (i := 4) rfl (by rfl) (fun K hK => ?_) AllReadyH.nil
                          go_simp
                          refine hK.out _ _ trivial (fun hHeld => ?_)
                          clear hK K
                          try simp only [Act.put, List.setIfInBounds_toArray, List.set_cons_zero, List.set_cons_succ]
                          refine wpAnyH_ready (rs := [11]) (by kernel_rfl) (by simp) ?_
                          refine kit6.cons_l (i := 11) rfl (by rfl) (fun K hK => ?_) AllReadyH.nil
                          refine oper_append_at (.tmp 146) (.tmp 152) 24 rfl w.heap.size 39 je _ 2 32 Try.underlying24 hje he0 he1 he2 rfl (by decide) (.slice u.ea u.es.length u.ec) u.es.length (u.es.flatMap Et.cells) rfl HOWN.out ⟨wm.heap.size + 1, 0, none⟩ 1 1 [.int .i64 (1 + (q4 : Int)), .slice (some ⟨wm.heap.size, 0, none⟩) 1 1] rfl rfl HLIE.out (by simp [Value.oneCell']) (by unfold maxLen; omega) (by omega) HSZ.out ?_
                          intro v5 w5 hown hgr hat5
                          obtain ⟨a5, c5, rfl⟩ := own_shape hown
                          have hgr6 : (w2.alloc (.cells #[.int .i64 (1 + (q4 : Int)), .slice (some ⟨wm.heap.size, 0, none⟩) 1 1] 39)).grownBy w5 (Value.slice u.ea u.es.length u.ec).ownBlock := by rw [HW2.out]; exact hgr
                          have hat6 : ∀ k, (Value.slice a5 (u.es.length + 1) c5).ownBlock = some k → (Value.slice u.ea u.es.length u.ec).ownBlock = some k ∨ (w2.alloc (.cells #[.int .i64 (1 + (q4 : Int)), .slice (some ⟨wm.heap.size, 0, none⟩) 1 1] 39)).heap.size ≤ k := fun k hk => (hat5 k hk).imp id (fun e => by rw [HW2.out]; exact e)
                          obtain ⟨hF1, ⟨vo, hF3⟩, hF4⟩ := HFIN.out w5 _ _ hown hgr6 hat6
                          have HF := Lib.hid hF1
                          clear hF1 hown hgr hat5 hgr6 hat6
                          dsimp only
                          refine hK.out _ _ trivial (fun hHeld => ?_)
                          clear hK K
                          try simp only [Act.put, List.setIfInBounds_toArray, List.set_cons_zero, List.set_cons_succ]
                          refine kit6.take_y (i := 12) (v := ?_) rfl (by kernel_rfl) (by kernel_rfl) (by kernel_rfl) (fun _ _ _ h => h) (by rfl) (by assumption) ?_ ?_
                          rotate_left
                          · intro w hSw
                            try dsimp only at hSw
                            go_simp
                            try with_reducible rfl
                          try simp only [Act.put, List.setIfInBounds_toArray, List.set_cons_zero, List.set_cons_succ]
                          refine kit6.take_y (i := 13) (v := ?_) rfl (by kernel_rfl) (by kernel_rfl) (by kernel_rfl) (fun _ _ _ h => h) (by rfl) (by assumption) ?_ ?_
                          rotate_left
                          · intro w hSw
                            try dsimp only at hSw
                            go_simp
                            try with_reducible rfl
                          try simp only [Act.put, List.setIfInBounds_toArray, List.set_cons_zero, List.set_cons_succ]
                          refine wpAnyH_ready (rs := [14]) (by kernel_rfl) (by simp) ?_
                          refine kit6.cons_l (i := 14) rfl (by rfl) (fun K hK => ?_) AllReadyH.nil
                          go_simp
                          refine hK.out _ _ trivial (fun hHeld => ?_)
                          clear hK K
                          try simp only [Act.put, List.setIfInBounds_toArray, List.set_cons_zero, List.set_cons_succ]
                          refine wpAnyH_done (by kernel_rfl) ?_ _
                          go_wp2_with fail
                          go_meet
                          case rel => exact HF.out
              case rest =>
                obtain ⟨As2, us2, hul2, HS2, HD2, HB2⟩ := hcut
                as_aux_lemma =>
                have hal : As2.length = k := by rw [← HS2.out.len]; exact HBL.out
                have HAL := Lib.hid hal
                have hwcz := HB2.out.size
                have hREL : Hid ((m + 1 ≤ l.length) ∧ (m + 1 ≤ 300)) := ⟨by omega, by omega⟩
                clear hal t1 t2 x0 x4 xz HSm HBm HU HBQ hw1 hw4 HN5 hv256 hk1 hixl hqb hul9 HD HS
                go_wp2_with fail
                go_loopw [24, 25] (fun av i wz => ∃ (j : Nat) (aa : Option Addr) (ac : Nat) (ps : List Pt), j ≤ k ∧ i = .int .i64 j ∧ av = .slice aa ps.length ac ∧ Hid (ps.map pv = (allV As2).take j) ∧ Hid (RowO wz wc.heap.size aa ac ps) ∧ Hid (Below wc.heap.size wc wz)) (fun _ i _ => k - (RowKit.intOf i).toNat)
                case atStart => exact ⟨0, none, 0, [], Nat.zero_le _, rfl, rfl, rfl, ⟨World.ownsRow_nil _ _ _ _, by simp⟩, Below.refl _ _⟩
                case round =>
                  obtain ⟨wo, rfl⟩ : ∃ wo : World, wo = wr := ⟨_, rfl⟩
                  obtain ⟨j, aa, ac, ps, hj, rfl, rfl, HPS, HRO, HBZ⟩ := hrel
                  have hpl : ps.length ≤ 5 := by have h1 := congrArg List.length HPS.out; rw [List.length_map, List.length_take] at h1; omega
                  by_cases hjk : j < k
                  · -- <5
                    have hjA : j < As2.length := by rw [HAL.out]; exact hjk
                    have hjb : j < bs.length := by rw [HBL.out]; exact hjk
                    have hacc := (HS2.out.below HBZ.out).acc j hjb hjA
                    have HV := Lib.hid (votes_ok wo w.heap.size bs[j].1 bs[j].2 As2[j] hacc)
                    have HFIT := Lib.hid (acc_fit hacc)
                    have HFB := Lib.hid (HD2.out.ga As2[j] (List.getElem_mem hjA))
                    obtain ⟨gz, hgz, hgz2, xm⟩ := ptr_cell (HS2.out.below HBZ.out).mem hjb (x := ptr bs[j].1) (by simp [hjb])
                    have xm' : wo.cell? ⟨gm, j, none⟩ = some (.pointer (some ⟨bs[j].1, 0, none⟩)) := by
                      simp only [Option.some.injEq, Addr.mk.injEq] at hgz
                      rw [hgz.1]; exact xm
                    have hw1 : IntKind.i64.wrap ((j : Int) + 1) = (j : Int) + 1 := IntWalk.i64_in _ (by omega)
                    obtain ⟨pp, hpp⟩ : ∃ pp, pp = bs[j].1 := ⟨_, rfl⟩
                    rw [← hpp] at xm' HV
                    have hjk' : (j : Int) < (k : Int) := by omega
                    have hbl9 : bs.length ≤ 9223372036854775807 := by omega
                    clear hacc hgz hgz2 xm hpp
                    as_aux_lemma =>
                      go_wp2_with (first | (go_at_call 26; refine HV.out.mono ?_; rintro e w7 ⟨v7, rfl, hT, hb7⟩; obtain ⟨xa, xc, xs, rfl, hxs, hOP⟩ := told_own (x := (j : Int) + 1) hT HBZ.out.size (fun v hv => ⟨(HFIT.out.1 v hv).1, HFB.out v hv, by have := HFIT.out.1 v hv; have := HFIT.out.2; omega⟩) HFIT.out.2.2.2 (by omega); have HXS := Lib.hid hxs; have HOP := Lib.hid hOP; have HRO7 := Lib.hid (HRO.out.below hb7); have HB7 := Lib.hid (below_step HBZ.out hb7); clear hxs hOP hT hb7) | (at_builtin; refine wpl_append rfl (.tmp 247) (.tmp 256) 22 rfl wc.heap.size 36 jp _ 2 32 Try.underlying22 hjp hp0 hp1 hp2 rfl (by decide) _ ps.length (pcells ps) rfl (HRO7.out.row.alloc _) (some ⟨w7.heap.size, 0, none⟩) 1 1 (Pt.cells ⟨(j : Int) + 1, xs, xa, xc⟩) rfl (by simp) rfl (lie_new2' _ _ _ _) (by simp [Pt.cells, Value.oneCell']) (by unfold maxLen; omega) (by omega) (by have h1 := HB7.out.size; rw [size_new]; omega) ?_))
                      intro v8 w8 hown hgr
                      obtain ⟨a8, c8, rfl, hro8⟩ := RowO.step (w := wc) HRO7.out HOP.out hgr hown
                      have hb8 : Below wc.heap.size wc w8 := keep_below HB7.out (keep_row (below_new1 w7 (.cells #[.int .i64 ((j : Int) + 1), .slice xa xs.length xc] 36)) (HRO7.out.row.alloc _) hgr) (fun g hg hs => by have := (own_from HRO7.out.row g hs).1; omega)
                      have hps8 : (ps ++ [(⟨(j : Int) + 1, xs, xa, xc⟩ : Pt)]).map pv = (allV As2).take (j + 1) := by
                        rw [allV_take hjA, List.map_append, HPS.out, List.map_singleton, ← HXS.out, List.map_map]
                        rfl
                      have HRO8 := Lib.hid hro8
                      have HB8 := Lib.hid hb8
                      have HPS8 := Lib.hid hps8
                      clear hown hgr hro8 hb8 hps8
                      go_wp2_with fail
                      go_roundw
                      case rel => exact ⟨j + 1, a8, c8, _, by omega, by go_num, rfl, HPS8, HRO8, HB8⟩
                      case measure => simp [RowKit.intOf]; omega
                  · obtain rfl : j = k := by omega
                    have hps : ps.map pv = allV As2 := by rw [HPS.out]; exact List.take_of_length_le (by rw [allV_len, HAL.out]; exact Nat.le_refl _)
                    have HX := Lib.hid (chosen_ok wo j aa ac ps (HRO.out.rowP (by omega)))
                    have hcl := cht.chosenA_len j ps
                    rw [hps] at HX hcl
                    have hlt : ¬ ((j : Int) < (j : Int)) := by omega
                    have HCL := Lib.hid hcl
                    clear hps hcl HPS
                    go_wp2_with (go_at_call 10; refine HX.out.mono ?_; rintro e w9 ⟨ea, ec, es, rfl, hout, hb9⟩)
                    have hel : es.length ≤ 1024 := by rw [hout.size]; exact HCL.out
                    have HOUT := Lib.hid (And.intro hout.data hout.len)
                    have HES := Lib.hid (hout.own.mono (Nat.le_trans hwcz HBZ.out.size))
                    have hB9 : Below wc.heap.size wc w9 := below_step HBZ.out hb9
                    have HNE : Hid (∀ g, ca = some ⟨g, 0, none⟩ → ea ≠ some ⟨g, 0, none⟩) := fun g hg he => by
                      have h1 := (own_from HS2.out.cho.row g hg).2
                      have h2 := (own_from hout.own.row g he).1
                      have h3 := HBZ.out.size
                      omega
                    have HS9 := Lib.hid (HS2.out.below hB9)
                    have HB9 := Lib.hid (below_step HB2.out hB9)
                    clear hout hb9 hB9 HX HRO HBZ HCL
                    go_wp2_with fail
                    go_loopw [8, 27] (fun cv i wz => ∃ (jj : Nat) (ca2 : Option Addr) (cc2 : Nat) (ch2 : List Et), jj ≤ es.length ∧ i = .int .i64 jj ∧ cv = .slice ca2 ch2.length cc2 ∧ Hid (chsm.Sys wz w.heap.size (m + 1) bs As2 us2 (some ⟨gm, 0, none⟩) mc (some ⟨gt, 0, none⟩) tc ca2 cc2 ch2) ∧ Hid (Dat j As2 us2 ch2) ∧ Hid (ch2.length ≤ 1024 * m + jj) ∧ Hid (OwnE wz w.heap.size ea ec es) ∧ Hid (∀ g, ca2 = some ⟨g, 0, none⟩ → ea ≠ some ⟨g, 0, none⟩) ∧ Hid (Below w.heap.size w wz)) (fun _ i _ => es.length - (RowKit.intOf i).toNat)
                    case atStart => exact ⟨0, ca, cc, ch, Nat.zero_le _, rfl, rfl, HS9, HD2, HC, HES, HNE, HB9⟩
                    case round =>
                      obtain ⟨wq, rfl⟩ : ∃ wq : World, wq = wr := ⟨_, rfl⟩
                      clear HS9 HES HNE HB9 HC HS2 HD2 HB2
                      obtain ⟨jj, ca2, cc2, ch2, hjj, rfl, rfl, HS9, HD9, HC9, HES, HNE, HB9⟩ := hrel
                      have hcl : ch2.length ≤ 2000000 := by have := HC9.out; omega
                      by_cases hjl : jj < es.length
                      · obtain ⟨ge, rfl⟩ : ∃ ge, ea = some ⟨ge, 0, none⟩ := own_ptr HES.out.row (by omega)
                        obtain ⟨x, hx⟩ : ∃ x, x = es[jj] := ⟨_, rfl⟩
                        have HXI := Lib.hid hx
                        have hxc : x.l.length ≤ 140737488355328 := by rw [hx]; exact HOUT.out.2 _ (List.getElem_mem hjl)
                        have HXM : Hid (le x ∈ chosenA j (allV As2)) := by rw [hx]; show le es[jj] ∈ _; rw [← HOUT.out.1]; exact List.mem_map_of_mem (List.getElem_mem hjl)
                        have HXC : Hid (∀ wz : World, Below wq.heap.size wq wz → ge < wz.heap.size ∧ wz.cell? ⟨ge, jj * 2, none⟩ = some (.int .i64 x.s) ∧ wz.cell? ⟨ge, jj * 2 + 1, none⟩ = some (.slice x.a x.l.length x.c) ∧ Lie wz x.a (bcells x.l)) := fun wz hb => by
                          have hr := (HES.out.below hb).rows (by omega) HOUT.out.2
                          obtain ⟨g2, o2, e2, h1, h2, h3⟩ := hr.cells jj hjl
                          simp only [Option.some.injEq, Addr.mk.injEq, and_true] at e2
                          obtain ⟨rfl, rfl⟩ := e2
                          simp only [Nat.zero_add] at h2 h3
                          rw [hx]
                          exact ⟨h1, h2, h3, (hr.lie _ (List.getElem_mem hjl)).1⟩
                        have hel9 : es.length ≤ 9223372036854775807 := by omega
                        have hcl9 : ch2.length ≤ 9223372036854775807 := by omega
                        clear hx
                        go_wp2_with fail
                        go_loopw [28, 29] (fun ov i wz => ∃ j2 : Nat, j2 ≤ ch2.length ∧ i = .int .i64 j2 ∧ ov = .bool ((ch2.take j2).any (fun e => decide (e.s = x.s))) ∧ Hid (Below wq.heap.size wq wz)) (fun _ i _ => ch2.length - (RowKit.intOf i).toNat)
                        case atStart => exact ⟨0, Nat.zero_le _, rfl, rfl, Below.refl _ _⟩
                        case round =>
                          obtain ⟨wi, rfl⟩ : ∃ wi : World, wi = wr := ⟨_, rfl⟩
                          obtain ⟨j2, hj2, rfl, rfl, HBI⟩ := hrel
                          by_cases hjc : j2 < ch2.length
                          · have hjc' : (j2 : Int) < (ch2.length : Int) := by omega
                            obtain ⟨gx0, hx0, hx1, hx3⟩ := HXC.out wi HBI.out
                            have hbd : Below wq.heap.size wq wi.drew := below_step HBI.out (below_drewN (Below.refl _ wi) 1)
                            have hr := (HS9.out.cho.below hbd).rows (by omega) HS9.out.cfit
                            obtain ⟨g2, o2, rfl, hg2, z0, z1⟩ := hr.cells j2 hjc
                            have hli := (hr.lie _ (List.getElem_mem hjc)).1
                            have hle := HS9.out.cfit _ (List.getElem_mem hjc)
                            have hany := List.any_take_succ' (fun e : Et => decide (e.s = x.s)) hjc
                            have hmem : ch2[j2] ∈ ch2 := List.getElem_mem hjc
                            obtain ⟨y, hy⟩ : ∃ y, y = ch2[j2] := ⟨_, rfl⟩
                            rw [← hy] at z0 z1 hli hle hany hmem
                            obtain ⟨O, hO⟩ : ∃ O, O = (ch2.take j2).any (fun e => decide (e.s = x.s)) := ⟨_, rfl⟩
                            rw [← hO] at hany ⊢
                            have HANY := Lib.hid hany
                            have HBD := Lib.hid hbd
                            have z0' : wi.cell? ⟨g2, o2 + j2 * 2, none⟩ = some (.int .i64 y.s) := z0
                            have z1' : wi.cell? ⟨g2, o2 + j2 * 2 + 1, none⟩ = some (.slice y.a y.l.length y.c) := z1
                            clear hr hO hbd hany z0 z1 hy
                            by_cases hs : y.s = x.s
                            · have hyx : y.l = x.l := HD9.out.clash HXM.out hmem hs
                              have HCB := Lib.hid (bytes_any y.l x.l y.a x.a y.c x.c wi.drew (by omega) hli (hx3.below (below_drewN (Below.refl _ wi) 1)))
                              have hsb : sameB y.l x.l = true := by rw [hyx]; simp [sameB]
                              rw [hsb] at HCB
                              rw [hs] at z0'
                              have HT : Hid ((ch2.take (j2 + 1)).any (fun e => decide (e.s = x.s)) = true) := by show _ = true; rw [HANY.out]; simp [hs]
                              clear hs hyx hsb hmem hli hle
                              cases O with
                              | true =>
                                as_aux_lemma =>
                                  go_wp2_with fail
                                  go_still_tail 22, (by kernel_rfl)
                                  change wpList _ _ _ _ _ wi.drew
                                  go_wp2_with fail
                                  refine HCB.out.mono ?_; rintro e wb ⟨rfl, hbb⟩
                                  have HBB := Lib.hid (below_step HBD.out hbb)
                                  clear hbb
                                  go_wp2_with fail
                                  go_quiet (fail)
                                  go_wp2_with fail
                                  go_roundw
                                  case rel => exact ⟨j2 + 1, by omega, by go_num, by rw [HT.out], below_step HBB.out (below_drewN (Below.refl _ wb) _)⟩
                                  case measure => simp [RowKit.intOf]; omega
                              | false =>
                                as_aux_lemma =>
                                  go_wp2_with fail
                                  go_still_tail 22, (by kernel_rfl)
                                  change wpList _ _ _ _ _ wi.drew
                                  go_wp2_with fail
                                  refine HCB.out.mono ?_; rintro e wb ⟨rfl, hbb⟩
                                  have q0 := cell_step (W := wi.drew) z0' hbb
                                  have q1 := cell_step (W := wi.drew) hx0 hbb
                                  have HBB := Lib.hid (below_step HBD.out hbb)
                                  clear hbb
                                  go_wp2_with fail
                                  go_quiet (fail)
                                  go_wp2_with fail
                                  go_roundw
                                  case rel => exact ⟨j2 + 1, by omega, by go_num, by rw [HT.out], below_step HBB.out (below_drewN (Below.refl _ wb) _)⟩
                                  case measure => simp [RowKit.intOf]; omega
                            · have t5 : (y.s == x.s) = false := by simpa using hs
                              have t6 : decide (y.s = x.s) = false := decide_eq_false hs
                              have HT : Hid ((ch2.take (j2 + 1)).any (fun e => decide (e.s = x.s)) = O) := by show _ = O; rw [HANY.out]; simp [hs]
                              clear hmem hli hle
                              cases O with
                              | true =>
                                as_aux_lemma =>
                                  go_wp2_with fail
                                  go_quiet (fail)
                                  go_wp2_with fail
                                  go_quiet (fail)
                                  go_wp2_with fail
                                  go_roundw
                                  case rel => exact ⟨j2 + 1, by omega, by go_num, by rw [HT.out], below_step HBI.out (below_drewN (Below.refl _ wi) _)⟩
                                  case measure => simp [RowKit.intOf]; omega
                              | false =>
                                as_aux_lemma =>
                                  go_wp2_with fail
                                  go_quiet (fail)
                                  go_wp2_with fail
                                  go_quiet (fail)
                                  go_wp2_with fail
                                  go_roundw
                                  case rel => exact ⟨j2 + 1, by omega, by go_num, by rw [HT.out], below_step HBI.out (below_drewN (Below.refl _ wi) _)⟩
                                  case measure => simp [RowKit.intOf]; omega
                          · obtain rfl : j2 = ch2.length := by omega
                            rw [List.take_length]
                            have hnlt : ¬ ((ch2.length : Int) < (ch2.length : Int)) := by omega
                            have HSI := Lib.hid (HS9.out.below HBI.out)
                            have HEI := Lib.hid (HES.out.below HBI.out)
                            have HBJ := Lib.hid (below_step HB9.out HBI.out)
                            obtain ⟨gx0, hx0, hx1, hx3⟩ := HXC.out wi HBI.out
                            obtain ⟨O, hO⟩ : ∃ O, O = ch2.any (fun e => decide (e.s = x.s)) := ⟨_, rfl⟩
                            rw [← hO]
                            have HC10 : Hid (ch2.length + 1 ≤ 1024 * m + (jj + 1)) := by have := HC9.out; show ch2.length + 1 ≤ 1024 * m + (jj + 1); omega
                            clear hO hx3
                            cases O with
                            | true =>
                              have HC11 : Hid (ch2.length ≤ 1024 * m + (jj + 1)) := by have := HC9.out; show ch2.length ≤ 1024 * m + (jj + 1); omega
                              as_aux_lemma =>
                                go_wp2_with fail
                                go_roundw
                                case rel => exact ⟨jj + 1, ca2, cc2, ch2, by omega, by go_num, rfl, HSI, HD9, HC11, HEI, HNE, HBJ⟩
                                case measure => simp [RowKit.intOf]; omega
                            | false =>
                              as_aux_lemma =>
                                go_wp2_with (at_builtin; refine wpl_append_at rfl (.tmp 314) (.tmp 319) 24 rfl w.heap.size 39 je _ 2 32 Try.underlying24 hje he0 he1 he2 rfl (by decide) _ ch2.length (ch2.flatMap Et.cells) rfl (HSI.out.cho.row.alloc _) ⟨wi.heap.size, 0, none⟩ 1 1 (Et.cells x) rfl (by simp [Et.cells]) (lie_new2 _ _ _ _) (by simp [Et.cells, Value.oneCell']) (by unfold maxLen; omega) (by omega) (by have h1 := HBJ.out.size; rw [size_new]; omega) ?_)
                                intro v8 w8 hown hgr hat
                                obtain ⟨a8, c8, rfl⟩ := own_shape hown
                                have hkr := keep_row (below_new1 wi (.cells #[.int .i64 x.s, .slice x.a x.l.length x.c] 39)) (HSI.out.cho.row.alloc _) hgr
                                have K : Kept (fun T => T ≠ 39) wi w8 := fun g cs T hT hg => hkr.hp hg (fun hs => own_ne HSI.out.cho.row hg hT g hs rfl)
                                have hxb : wi.ownsRow w.heap.size 5 1 (.slice x.a x.l.length x.c) x.l.length (bcells x.l) := by rw [HXI.out]; exact HEI.out.body _ (List.getElem_mem hjl)
                                have hcho : OwnE w8 w.heap.size a8 c8 (ch2 ++ [x]) := ⟨by rw [List.length_append, List.length_singleton, List.flatMap_append, List.flatMap_singleton]; exact hown, fun e he => by
                                  rcases List.mem_append.1 he with he | he
                                  · exact own_to (HSI.out.cho.body e he) K (by decide)
                                  · rw [List.mem_singleton.1 he]; exact own_to hxb K (by decide)⟩
                                have hnear : Near wi ca2 a8 := fun g hg => by
                                  subst hg
                                  rcases hat g rfl with e | e
                                  · exact .inl (own_block HSI.out.cho.row g e)
                                  · exact .inr (by omega)
                                have HS8 := Lib.hid (HSI.out.cho_step hkr hcho hnear hxc)
                                have HD8 := Lib.hid (HD9.out.chosen (e := x) HXM.out)
                                have HE8 : Hid (OwnE w8 w.heap.size (some ⟨ge, 0, none⟩) ec es) := ⟨own_kept HEI.out.row (fun g hg => hkr.block g (own_from HEI.out.row g hg).2 (fun hs => HNE.out g hs hg)), fun e he => own_to (HEI.out.body e he) K (by decide)⟩
                                have HN8 : Hid (∀ g, a8 = some ⟨g, 0, none⟩ → (some ⟨ge, 0, none⟩ : Option Addr) ≠ some ⟨g, 0, none⟩) := fun g hg he => by
                                  rcases hnear g hg with e | e
                                  · exact HNE.out g e he
                                  · have := (own_from HEI.out.row g he).2; omega
                                have HB8 := Lib.hid (keep_below HBJ.out hkr (fun g hg hs => by have := (own_from HSI.out.cho.row g hs).1; omega))
                                clear hown hgr hat hkr K hxb hcho hnear
                                go_wp2_with fail
                                go_roundw
                                case rel => exact ⟨jj + 1, a8, c8, ch2 ++ [x], by omega, by go_num, by rw [List.length_append, List.length_singleton], HS8, HD8, by rw [List.length_append, List.length_singleton]; exact HC10, HE8, HN8, HB8⟩
                                case measure => simp [RowKit.intOf]; omega
                      · obtain rfl : jj = es.length := by omega
                        have HC10 : Hid (ch2.length ≤ 1024 * (m + 1)) := by have := HC9.out; show ch2.length ≤ 1024 * (m + 1); omega
                        go_wp2_with fail
                        go_roundw
                        case rel => exact ⟨m + 1, As2, us2, some ⟨gt, 0, none⟩, tc, ca2, cc2, ch2, hREL.out.1, hREL.out.2, by go_num, by rw [hul2], rfl, HS9, HD9, HC10, HB9⟩
                        case measure => simp [RowKit.intOf]; have := hREL.out; omega
        · by_cases hml : m < l.length
          · have hmi : ¬ ((m : Int) < 300) := by omega
            have hmi2 : (m : Int) < (l.length : Int) := by omega
            go_wp2_with fail
            go_ret
            exact ⟨rfl, HB.out⟩
          · have hmi2 : ¬ ((m : Int) < (l.length : Int)) := by omega
            go_wp2_with fail
            go_ret
            exact ⟨rfl, HB.out⟩

theorem elem_mv {H : Type} {enc : TypeId × Value → H} {W : World} (n : Nat) (cs : List Value) (y : DataW H × List MemPlace) (h : DataW.trod enc Try.prog W 0 (fun _ => true) true n 59 cs = some y) :
    ∃ m : Mv, cs = mcells m ∧ m.val < 256 := by
  obtain ⟨ys, n', _, hyl, hcl, hf⟩ := struct_cells Try.underlying59 (by kernel_rfl) (by kernel_rfl) h
  obtain ⟨c0, c1, c2, c3, c4, rfl⟩ := kit.list5 hcl
  obtain ⟨v0, y0, e0, _, t0⟩ := hf 0 _ rfl
  obtain ⟨v1, y1, e1, _, t1⟩ := hf 1 _ rfl
  obtain ⟨v2, y2, e2, _, t2⟩ := hf 2 _ rfl
  obtain ⟨v3, y3, e3, _, t3⟩ := hf 3 _ rfl
  obtain ⟨v4, y4, e4, _, t4⟩ := hf 4 _ rfl
  obtain ⟨a0, q0, _, w0⟩ := DataW.trod_int Try.underlying3 t0
  obtain ⟨a1, q1, _, w1⟩ := DataW.trod_int Try.underlying3 t1
  obtain ⟨a2, q2, _, w2⟩ := DataW.trod_int Try.underlying3 t2
  obtain ⟨a3, q3, _, w3⟩ := DataW.trod_int Try.underlying3 t3
  obtain ⟨a4, q4, _, w4⟩ := DataW.trod_int Try.underlying5 t4
  simp at e0 e1 e2 e3 e4 q0 q1 q2 q3 q4
  subst e0 e1 e2 e3 e4 q0 q1 q2 q3 q4
  simp [Lit.wf, IntKind.min, IntKind.max, IntKind.signed, IntKind.bits] at w4
  refine ⟨⟨a0, a1, a2, a3, a4.toNat⟩, ?_, by show a4.toNat < 256; omega⟩
  have : ((a4.toNat : Nat) : Int) = a4 := by omega
  simp only [mcells, this]

theorem lawWalk {H : Type} (enc : TypeId × Value → H) : LawWalk enc Try.prog 6 Try.f6 (fun _ => True) := by
  intro W base args ds p hval hA hsz _
  rw [Try.params6] at hA hval hsz
  obtain ⟨v0, vs0, d0, ds0, p0, q0, hargs, rfl, rfl, h0, r0⟩ := trodAll_cons hA
  obtain ⟨v1, vs1, d1, ds1, p1, q1, rfl, rfl, rfl, h1, r1⟩ := trodAll_cons r0
  obtain ⟨rfl, rfl, rfl⟩ := trodAll_nil r1
  obtain rfl : args = #[v0, v1] := Array.toList_inj.1 hargs
  obtain ⟨n0, rfl, rfl, rfl, w0⟩ := open_int Try.underlying3 (hval 0 3 v0 rfl rfl) h0
  obtain ⟨a1, l1, cap1, es1, sp1, rfl, hlc1, hcm1, hn1, hat1, hd1, hel1, hsp1, hgood1⟩ := open_slice_gen 5 mcells (fun m _ => m.val < 256) Try.underlying51 (by kernel_rfl) (by omega) (fun n cs y _ h => elem_mv n cs y h) (hval 1 51 v1 rfl rfl) h1
  exact safe_ok W n0 a1 cap1 l1 hat1 (by unfold maxLen at hcm1; omega) (fun m hm => by
    obtain ⟨i, hi, rfl⟩ := List.getElem_of_mem hm
    exact hgood1 i hi (by omega))

theorem own : ownKnob Try.prog.godebug = none := by kernel_rfl
theorem laidOut : laidOutB Try.prog = true := by kernel_rfl

set_option maxRecDepth 100000 in
theorem lifted (os : Os) (started : os.Started) (H : Type) (enc : TypeId × Value → H) :
    ReturnsInHanded {} Try.checked os 6 .any (Rows.chooseSafeSpec.pre6 enc Try.prog Try.f6 Rows.chooseSafeRow.domain false) (Rows.chooseSafeSpec.post enc Try.prog Try.f6 false true false false) := by
  refine returnsInHanded_of_change_sized (C := Try.checked) own started (by kernel_rfl) Try.func6
    (ChangeSpec.witness6 (enc := enc) (C := Try.checked) false ⟨#[], #[.int .i64 0, .slice none 0 0], []⟩ 8 (by kernel_rfl) (by kernel_rfl) (by kernel_rfl) (by kernel_rfl)) ?_
  intro W base args ds gs before hval hW hcnd hsz _
  exact law_post (C := Try.checked) laidOut (fun ds h => by match ds, h with | [_, _], _ => rfl) 4 rfl Try.underlying4 rfl (by kernel_rfl) hval hW hsz trivial (lawWalk enc)

theorem proved : Rows.ChooseSafeSaid :=
  OpenClaim.holds_of_wide 6 Try.f6 rfl rfl rfl rfl rfl rfl rfl ⟨rfl, rfl, rfl, rfl, rfl⟩ rfl rfl rfl rfl rfl (by kernel_rfl) Try.func6 (by kernel_rfl)
    (of_decide_eq_true (by kernel_rfl)) (by unfold Func.isWrapper; first | (rw [if_pos (by decide +kernel)]; kernel_rfl) | (rw [if_neg (by decide +kernel)]; exact ⟨rfl, rfl⟩))
    (fun os started H enc _ => lifted os started H enc)
#print axioms proved
end Go.Proofs.Ytodoncmielfbeaa.chooseSafe
