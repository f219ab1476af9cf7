/-
  A clock in memory, as the laws' awake sets it: contracts at concrete states; what a nil clock answers.
-/
import Derived.Test.YtejjnhgiijhglaaKit
import Derived.Test.YtejjnhgiijhglaaMapKit
import Derived.Test.YtejjnhgiijhglaaProg
import Derived.Deep.QuietTactic
import Derived.Deep.RegionWith
import Derived.BigQuiet
import Derived.Lib.Hide
import Derived.Shelf.SlMaps.Clone
namespace Go.Proofs.Ytejjnhgiijhglaa.clk
open Go.ChangeShapes Go.WideShapes Go.ChangeAt Go.RowKit
open Go.Maps
open Go.Proofs.Ytejjnhgiijhglaa.kit Go.Proofs.Ytejjnhgiijhglaa.mapkit
set_option linter.unusedVariables false
set_option linter.unusedSimpArgs false
set_option maxHeartbeats 1000000
set_option maxRecDepth 100000

/-- A nil clock. -/
theorem nil_now (w : World) : Calls Try.prog 10 #[.pointer none] w fun e w' => e = .returned (.int .i64 0) ∧ w = w' := by
  go_enter Try.func10, Try.ntmps10
  go_wp2_with fail
  go_ret
  exact ⟨rfl, rfl⟩
theorem nil_set (s : ByteArray) (n : Int) (w : World) : Calls Try.prog 11 #[.pointer none, .string s, .int .i64 n] w fun e w' => e = .returned (.int .i64 2) ∧ w = w' := by
  go_enter Try.func11, Try.ntmps11
  go_wp2_with fail
  go_ret
  exact ⟨rfl, rfl⟩
theorem nil_stop (s : ByteArray) (w : World) : Calls Try.prog 21 #[.pointer none, .string s] w fun e w' => e = .returned (.bool false) ∧ w = w' := by
  go_enter Try.func21, Try.ntmps21
  go_wp2_with fail
  go_ret
  exact ⟨rfl, rfl⟩
theorem nil_due (s : ByteArray) (w : World) : Calls Try.prog 12 #[.pointer none, .string s] w fun e w' => e = .returned (.tuple #[.int .i64 0, .bool false]) ∧ w = w' := by
  go_enter Try.func12, Try.ntmps12
  go_wp2_with fail
  exact bodyPost_ret (v := .tuple #[.int .i64 0, .bool false]) (by simp [results, Try.results12, go_sem]) rfl ⟨rfl, rfl⟩
theorem nil_tick (w : World) : Calls Try.prog 13 #[.pointer none] w fun e w' => e = .returned (.slice none 0 0) ∧ w = w' := by
  go_enter Try.func13, Try.ntmps13
  go_wp2_with fail
  go_ret
  exact ⟨rfl, rfl⟩
theorem nil_names (w : World) : Calls Try.prog 17 #[.pointer none] w fun e w' => e = .returned (.slice none 0 0) ∧ w = w' := by
  go_enter Try.func17, Try.ntmps17
  go_wp2_with fail
  go_ret
  exact ⟨rfl, rfl⟩
theorem nil_fork (w : World) : Calls Try.prog 20 #[.pointer none] w fun e w' => e = .returned (.pointer none) ∧ w = w' := by
  go_enter Try.func20, Try.ntmps20
  go_wp2_with fail
  go_ret
  exact ⟨rfl, rfl⟩

theorem keyedS : Keyed Try.prog 9 := string_keyed Try.underlying9
def xs : ByteArray := { data := #[120] }
def kx : Lit := .string xs.data.toList
theorem key_x : keyOf Try.prog 9 (.string xs) = some kx := Go.WideMaps.keyOf_string_mk (P := Try.prog) Try.underlying9 (by simp [xs, ByteArray.size, maxLen])
theorem zeroT (w : World) : (zeroValue 52).run Try.prog w = .ok (.pointer none) w := by kernel_rfl

/-- A clock that has no timers. -/
structure Empty (w : World) (base cb mb : Nat) : Prop where
  lob : base ≤ cb
  lom : base ≤ mb
  blk : w.heap[cb]? = some (.cells #[.int .i64 0, .int .i64 0, .slice none 0 0, .map (some mb)] 51 (0, 0))
  map : MapAt w Try.prog 9 mb (fun _ => none) 0

theorem new_ok (w : World) : Calls Try.prog 14 #[] w fun e w' => ∃ cb mb, e = .returned (.pointer (some ⟨cb, 0, none⟩)) ∧ Empty w' w.heap.size cb mb ∧ Below w.heap.size w w' := by
  have hm := map_made w Try.prog 9
  have hmm := @run_makeMap Try.prog
  have hs : (w.alloc (.map #[] 0)).heap.size = w.heap.size + 1 := size_new _ _
  go_enter Try.func14, Try.ntmps14
  go_wp2_with fail
  exact bodyPost_ret (v := .pointer (some ⟨w.heap.size + 1, 0, none⟩)) (by simp [results, Try.results14, go_sem]) rfl
    ⟨_, w.heap.size, rfl, ⟨by omega, Nat.le_refl _, by rw [← hs]; exact hp_alloc_new _ _, hm.alloc _⟩, below_new2 _ _ _⟩

theorem infoTm : (Try.prog.info? 52).map (fun i => (i.zero, i.size, i.bytes)) = some (some (.pointer none), 1, 8) := by kernel_rfl

theorem ta_timer (v : Value) (w : World) : (Instr.typeAssert (.iface 52 v) 20 52 false).run Try.prog w = .ok v w := by
  simp [Instr.typeAssert, run_underlying Try.underlying52, go_sem, Result.andThen]

/-- What a push leaves: the clock's cells but the queue, the timer's but its place, the queue. -/
def Pushed (w : World) (cb tb : Nat) (n k : Int) (m : Value) (s : ByteArray) (d u : Int) (w' : World) : Prop :=
  ∃ g cap, w.heap.size ≤ g ∧ w'.heap[cb]? = some (.cells #[.int .i64 n, .int .i64 k, .slice (some ⟨g, 0, none⟩) 1 cap, m] 51 (0, 0)) ∧
    w'.heap[tb]? = some (.cells #[.string s, .int .i64 d, .int .i64 u, .int .i64 0] 55 (0, 0)) ∧
    w'.cell? ⟨g, 0, none⟩ = some (.pointer (some ⟨tb, 0, none⟩)) ∧ 1 ≤ cap ∧ cap ≤ maxLen ∧ Keep (fun j => j = cb ∨ j = tb) w w'

theorem push_ok (w : World) (cb tb : Nat) (n k : Int) (m : Value) (s : ByteArray) (d u pl : Int) (hcb : w.heap[cb]? = some (.cells #[.int .i64 n, .int .i64 k, .slice none 0 0, m] 51 (0, 0)))
    (htb : w.heap[tb]? = some (.cells #[.string s, .int .i64 d, .int .i64 u, .int .i64 pl] 55 (0, 0))) :
    Calls Try.prog 75 #[.pointer (some ⟨cb, 2, none⟩), .iface 52 (.pointer (some ⟨tb, 0, none⟩))] w fun e w' => e = .returned (.tuple #[]) ∧ Pushed w cb tb n k m s d u w' := by
  obtain ⟨j0, hj, hy0, hy1, hy2⟩ := info_parts infoTm
  obtain ⟨cc, cf, hzc⟩ := blk hcb
  obtain ⟨tc, tf, hzt⟩ := blk htb
  have c2 : w.cell? ⟨cb, 2, none⟩ = some (.slice none 0 0) := cc 2
  have f2 : w.frozen? ⟨cb, 2, none⟩ = false := cf 2
  have t3 : w.cell? ⟨tb, 3, none⟩ = some (.int .i64 pl) := tc 3
  have g3 : w.frozen? ⟨tb, 3, none⟩ = false := tf 3
  have hne : cb ≠ tb := by
    rintro rfl
    rw [hcb] at htb
    simp at htb
  have HC := Lib.hid hcb
  have HT := Lib.hid htb
  have hta := ta_timer (.pointer (some ⟨tb, 0, none⟩))
  clear cc cf tc tf hcb htb
  go_enter Try.func75, Try.ntmps75
  go_wp2_with (at_builtin; refine wpl_append rfl (.tmp 17) (.tmp 19) 48 rfl w.heap.size 52 j0 _ 1 8 Try.underlying48 hj hy0 hy1 hy2 rfl (by decide) (.slice none 0 0) 0 [] rfl (World.ownsRow_nil _ _ _ _) (some ⟨w.heap.size, 0, none⟩) 1 1 [.pointer (some ⟨tb, 0, none⟩)] rfl (by simp) rfl ?hL (by simp [Value.oneCell']) (by unfold maxLen; omega) (by omega) ?hB ?_)
  case hL => exact .inr ⟨_, 0, rfl, by rw [size_new, size_set]; omega, fun i hi => by
    have hz := size_set w ⟨tb, 3, none⟩ (.int .i64 0)
    have hb := (blk (hp_alloc_new (w.setCell ⟨tb, 3, none⟩ (.int .i64 0)) (.cells #[.pointer (some ⟨tb, 0, none⟩)] 52))).1 0
    rw [hz] at hb
    match i, hi with | 0, _ => exact hb⟩
  case hB => rw [size_new, size_set]; omega
  intro v' w' hown hgr
  have hkA : Keep (fun j => j = cb ∨ j = tb) w ((w.setCell ⟨tb, 3, none⟩ (.int .i64 0)).alloc (.cells #[.pointer (some ⟨tb, 0, none⟩)] 52)) := Keep.alloc (Keep.setCell (p := ⟨tb, 3, none⟩) (Keep.refl _ _) (.inr (.inr rfl)) _) _
  have hb1 : Below ((w.setCell ⟨tb, 3, none⟩ (.int .i64 0)).alloc (.cells #[.pointer (some ⟨tb, 0, none⟩)] 52)).heap.size ((w.setCell ⟨tb, 3, none⟩ (.int .i64 0)).alloc (.cells #[.pointer (some ⟨tb, 0, none⟩)] 52)) w' :=
    ⟨hgr.os, hgr.tape, hgr.output, hgr.size, fun j hj => hgr.block j hj (by simp [Value.ownBlock])⟩
  have hcb1 : w'.heap[cb]? = some (.cells #[.int .i64 n, .int .i64 k, .slice none 0 0, m] 51 (0, 0)) :=
    hp_step (hp_new (by rw [hp_set_ne hne]; exact HC.out)) hb1
  have htb1 : w'.heap[tb]? = some (.cells #[.string s, .int .i64 d, .int .i64 u, .int .i64 0] 55 (0, 0)) :=
    hp_step (hp_new (hp_set HT.out 3 _)) hb1
  obtain ⟨g, cap, cur, rfl, hg, hh, hc1, hc2, _, hx⟩ : ∃ g cap cur, v' = .slice (some ⟨g, 0, none⟩) 1 cap ∧ w.heap.size ≤ g ∧ w'.heap[g]? = some (.cells cur 52 (0, 0)) ∧ 1 ≤ cap ∧ cap ≤ maxLen ∧ cur.size = cap * 1 ∧ cur.toList.take (1 * 1) = [.pointer (some ⟨tb, 0, none⟩)] := by
    rcases hown.2 with ⟨_, h⟩ | h
    · cases h
    · exact h
  have hgc : w'.cell? ⟨g, 0, none⟩ = some (.pointer (some ⟨tb, 0, none⟩)) := by
    rw [(blk hh).1 0, ← Array.getElem?_toList]
    have := congrArg (fun l => l[0]?) hx
    simpa [List.getElem?_take] using this
  have d2 : w'.cell? ⟨cb, 2, none⟩ = some (.slice none 0 0) := (blk hcb1).1 2
  have e2 : w'.frozen? ⟨cb, 2, none⟩ = false := (blk hcb1).2.1 2
  have hgcb : g ≠ cb := by omega
  have hEnd : Pushed w cb tb n k m s d u (w'.setCell ⟨cb, 2, none⟩ (.slice (some ⟨g, 0, none⟩) 1 cap)) := by
    refine ⟨g, cap, hg, hp_set hcb1 2 _, by rw [hp_set_ne (Ne.symm hne)]; exact htb1, ?_, hc1, hc2, Keep.setCell (p := ⟨cb, 2, none⟩) (hkA.trans (Keep.of_below hb1)) (.inr (.inl rfl)) _⟩
    rw [← hgc]
    exact World.cell?_of_block (w := w') (hp_set_ne hgcb)
  have HE := Lib.hid hEnd
  clear hEnd hgc hcb1 htb1 hown hgr hb1 hkA hx hh c2 f2 t3 g3
  go_wp2_with fail
  exact bodyPost_end (v := .tuple #[]) (by simp [results, Try.results75, go_sem]) rfl ⟨rfl, HE.out⟩

theorem len_ok (a : Option Addr) (n c : Nat) (w : World) (hn : n ≤ 9223372036854775807) : Calls Try.prog 71 #[.slice a n c] w fun e w' => e = .returned (.int .i64 n) ∧ w = w' := by
  go_enter Try.func71, Try.ntmps71
  go_wp2_with fail
  go_ret
  exact ⟨rfl, rfl⟩

theorem pop_ok (w : World) (cb tb g cap : Nat) (n k : Int) (m : Value) (hcap : 1 ≤ cap) (hcb : w.heap[cb]? = some (.cells #[.int .i64 n, .int .i64 k, .slice (some ⟨g, 0, none⟩) 1 cap, m] 51 (0, 0)))
    (hg : w.cell? ⟨g, 0, none⟩ = some (.pointer (some ⟨tb, 0, none⟩))) :
    Calls Try.prog 74 #[.pointer (some ⟨cb, 2, none⟩)] w fun e w' => e = .returned (.iface 52 (.pointer (some ⟨tb, 0, none⟩))) ∧ w'.heap[cb]? = some (.cells #[.int .i64 n, .int .i64 k, .slice (some ⟨g, 0, none⟩) 0 cap, m] 51 (0, 0)) ∧ Keep (· = cb) w w' := by
  obtain ⟨cc, cf, hzc⟩ := blk hcb
  have c2 : w.cell? ⟨cb, 2, none⟩ = some (.slice (some ⟨g, 0, none⟩) 1 cap) := cc 2
  have f2 : w.frozen? ⟨cb, 2, none⟩ = false := cf 2
  have hcI : (0 : Int) ≤ (cap : Int) := by omega
  have hE : (w.setCell ⟨cb, 2, none⟩ (.slice (some ⟨g, 0, none⟩) 0 cap)).heap[cb]? = some (.cells #[.int .i64 n, .int .i64 k, .slice (some ⟨g, 0, none⟩) 0 cap, m] 51 (0, 0)) ∧ Keep (· = cb) w (w.setCell ⟨cb, 2, none⟩ (.slice (some ⟨g, 0, none⟩) 0 cap)) :=
    ⟨hp_set hcb 2 _, Keep.setCell (S := (· = cb)) (p := ⟨cb, 2, none⟩) (Keep.refl _ _) (.inr rfl) _⟩
  have HE := Lib.hid hE
  clear cc cf hcb hE
  go_enter Try.func74, Try.ntmps74
  go_wp2_with fail
  go_ret
  exact ⟨rfl, HE.out⟩

theorem m_push (x : Option Addr) (w : World) : (method 217 57 (.pointer x) "Push").run Try.prog w = .ok (75, .pointer x) w := by kernel_rfl
theorem m_pop (x : Option Addr) (w : World) : (method 217 57 (.pointer x) "Pop").run Try.prog w = .ok (74, .pointer x) w := by kernel_rfl
theorem m_len (a : Addr) (v : Value) (w : World) (h : w.cell? a = some v) : (method 217 57 (.pointer (some a)) "Len").run Try.prog w = .ok (71, v) w := by
  have e : (method 217 57 (.pointer (some a)) "Len").run Try.prog w = (load a >>= fun x => pure (71, x)).run Try.prog w := by kernel_rfl
  rw [e]
  simp [h, go_sem, Result.andThen]

theorem up_ok (h : Value) (w : World) : Calls Try.prog 31 #[h, .int .i64 0] w fun e w' => e = .returned (.tuple #[]) ∧ w = w' := by
  go_enter Try.func31, Try.ntmps31
  go_wp2_with fail
  refine wp_loop_rounds 1 ?_
  rw [rounds_succ]
  go_wp2_with fail
  exact bodyPost_end (v := .tuple #[]) (by simp [results, Try.results31, go_sem]) rfl ⟨rfl, rfl⟩

theorem hpush_ok (w : World) (cb tb : Nat) (n k : Int) (m : Value) (s : ByteArray) (d u pl : Int) (hcb : w.heap[cb]? = some (.cells #[.int .i64 n, .int .i64 k, .slice none 0 0, m] 51 (0, 0)))
    (htb : w.heap[tb]? = some (.cells #[.string s, .int .i64 d, .int .i64 u, .int .i64 pl] 55 (0, 0))) :
    Calls Try.prog 22 #[.iface 57 (.pointer (some ⟨cb, 2, none⟩)), .iface 52 (.pointer (some ⟨tb, 0, none⟩))] w fun e w' => e = .returned (.tuple #[]) ∧ Pushed w cb tb n k m s d u w' := by
  have hC := push_ok w cb tb n k m s d u pl hcb htb
  have HC := Lib.hid hC
  have hm := m_push (some ⟨cb, 2, none⟩)
  clear hC hcb htb
  go_enter Try.func22, Try.ntmps22
  go_wp2_with fail
  refine HC.out.mono ?_; rintro e w1 ⟨rfl, hP⟩
  obtain ⟨g, cap, hg, hc1, ht1, hg1, hcap, hcm, hk⟩ := hP
  have c2 : w1.cell? ⟨cb, 2, none⟩ = some (.slice (some ⟨g, 0, none⟩) 1 cap) := (blk hc1).1 2
  have hl := m_len ⟨cb, 2, none⟩ _ w1 c2
  have HP : Hid (Pushed w cb tb n k m s d u w1) := ⟨g, cap, hg, hc1, ht1, hg1, hcap, hcm, hk⟩
  clear hc1 ht1 hg1 hk hm
  go_wp2_with fail
  refine (len_ok _ 1 cap w1 (by omega)).mono ?_; rintro e w2 ⟨rfl, rfl⟩
  go_wp2_with fail
  refine (up_ok _ w1).mono ?_; rintro e w2 ⟨rfl, rfl⟩
  go_wp2_with fail
  exact bodyPost_end (v := .tuple #[]) (by simp [results, Try.results22, go_sem]) rfl ⟨rfl, HP.out⟩

theorem hremove_ok (w : World) (cb tb g cap : Nat) (n k : Int) (m : Value) (hcap : 1 ≤ cap) (hcb : w.heap[cb]? = some (.cells #[.int .i64 n, .int .i64 k, .slice (some ⟨g, 0, none⟩) 1 cap, m] 51 (0, 0)))
    (hg : w.cell? ⟨g, 0, none⟩ = some (.pointer (some ⟨tb, 0, none⟩))) :
    Calls Try.prog 30 #[.iface 57 (.pointer (some ⟨cb, 2, none⟩)), .int .i64 0] w fun e w' => e = .returned (.iface 52 (.pointer (some ⟨tb, 0, none⟩))) ∧ w'.heap[cb]? = some (.cells #[.int .i64 n, .int .i64 k, .slice (some ⟨g, 0, none⟩) 0 cap, m] 51 (0, 0)) ∧ Keep (· = cb) w w' := by
  have hC := pop_ok w cb tb g cap n k m hcap hcb hg
  have HC := Lib.hid hC
  have hm := m_pop (some ⟨cb, 2, none⟩)
  have c2 : w.cell? ⟨cb, 2, none⟩ = some (.slice (some ⟨g, 0, none⟩) 1 cap) := (blk hcb).1 2
  have hl := m_len ⟨cb, 2, none⟩ _ w c2
  clear hC hcb hg
  go_enter Try.func30, Try.ntmps30
  go_wp2_with fail
  refine (len_ok _ 1 cap w (by omega)).mono ?_; rintro e w2 ⟨rfl, rfl⟩
  go_wp2_with fail
  refine HC.out.mono ?_; rintro e w3 ⟨rfl, h1, h2⟩
  have H1 := Lib.hid h1
  have H2 := Lib.hid h2
  clear h1 h2
  go_wp2_with fail
  go_ret
  exact ⟨rfl, H1.out, H2.out⟩

theorem wp_named {P : Program} {c : Code} {Q : Exit → Act → World → Prop} {a : Act} {w : World} (h : ∀ w', w' = w → Code.wp P c Q a w') : Code.wp P c Q a w := h w rfl

theorem stop_none (w : World) (cb mb : Nat) (s : ByteArray) (v : Value) (n k : Int) (hcb : w.heap[cb]? = some (.cells #[.int .i64 n, .int .i64 k, v, .map (some mb)] 51 (0, 0)))
    (hlk : (Instr.lookup 49 (.map (some mb)) (.string s) true).run Try.prog w = .ok (.tuple #[.pointer none, .bool false]) w) :
    Calls Try.prog 21 #[.pointer (some ⟨cb, 0, none⟩), .string s] w fun e w' => e = .returned (.bool false) ∧ w = w' := by
  have c3 : w.cell? ⟨cb, 3, none⟩ = some (.map (some mb)) := (blk hcb).1 3
  clear hcb
  go_enter Try.func21, Try.ntmps21
  go_wp2_with fail
  go_ret
  exact ⟨rfl, rfl⟩

/-- A clock with one timer. -/
structure One (w : World) (base cb mb tb g cap : Nat) (now : Int) (s : ByteArray) (kl : Lit) : Prop where
  lob : base ≤ cb
  lom : base ≤ mb
  lot : base ≤ tb
  blk : w.heap[cb]? = some (.cells #[.int .i64 now, .int .i64 1, .slice (some ⟨g, 0, none⟩) 1 cap, .map (some mb)] 51 (0, 0))
  tm : w.heap[tb]? = some (.cells #[.string s, .int .i64 1, .int .i64 1, .int .i64 0] 55 (0, 0))
  q : w.cell? ⟨g, 0, none⟩ = some (.pointer (some ⟨tb, 0, none⟩))
  cap1 : 1 ≤ cap
  capm : cap ≤ maxLen
  map : ∃ f, MapAt w Try.prog 9 mb f 1 ∧ f kl = some (.pointer (some ⟨tb, 0, none⟩))
  ne : cb ≠ tb

theorem set_ok (w : World) (base cb mb : Nat) (s : ByteArray) (kl : Lit) (h : Empty w base cb mb) (hbase : base ≤ w.heap.size) (h1 : 1 ≤ s.size) (h2 : s.size ≤ 16) (hkl : keyOf Try.prog 9 (.string s) = some kl) (hlit : WideAt.IsKeyLit kl) :
    Calls Try.prog 11 #[.pointer (some ⟨cb, 0, none⟩), .string s, .int .i64 1] w fun e w' => e = .returned (.int .i64 0) ∧ (∃ tb g cap, One w' base cb mb tb g cap 0 s kl) ∧ Below base w w' := by
  obtain ⟨cc, cf, hzc⟩ := kit.blk h.blk
  have c0 : w.cell? ⟨cb, 0, none⟩ = some (.int .i64 0) := cc 0
  have c1 : w.cell? ⟨cb, 1, none⟩ = some (.int .i64 0) := cc 1
  have c2 : w.cell? ⟨cb, 2, none⟩ = some (.slice none 0 0) := cc 2
  have c3 : w.cell? ⟨cb, 3, none⟩ = some (.map (some mb)) := cc 3
  have f1 : w.frozen? ⟨cb, 1, none⟩ = false := cf 1
  have hlk := h.map.run_look_ok keyedS Try.underlying49 (zeroT w) hkl
  simp only [Option.getD, Option.isSome] at hlk
  have hst := stop_none w cb mb s _ _ _ h.blk hlk
  have hq := fun w => run_eql_map_nil_sl (P := Try.prog) w 49 _ _ (some mb) Try.underlying49
  have hs1 : ¬ (s.size : Int) < 1 := by omega
  have hs2 : ¬ (16 : Int) < (s.size : Int) := by omega
  have H := Lib.hid h
  have HST := Lib.hid hst
  have HKL := Lib.hid hkl
  have hmb := h.map.lt
  obtain ⟨es, clock, hem⟩ := h.map.obj
  have hcm : cb ≠ mb := by
    rintro rfl
    rw [h.blk] at hem
    cases hem
  clear cc cf h hst hkl hem h1 h2
  go_enter Try.func11, Try.ntmps11
  go_wp2_with fail
  refine HST.out.mono ?_; rintro e w1 ⟨rfl, rfl⟩
  go_wp2_with fail
  go_region
  obtain ⟨wt, hwt⟩ : ∃ wt : World, wt = ((w.setCell ⟨cb, 1, none⟩ (.int .i64 1)).alloc (.cells #[.string s, .int .i64 1, .int .i64 1, .int .i64 0] 55)).drew := ⟨_, rfl⟩
  rw [← hwt]
  have hsz : (w.setCell ⟨cb, 1, none⟩ (.int .i64 1)).heap.size = w.heap.size := size_set _ _ _
  have hszt : wt.heap.size = w.heap.size + 1 := by
    rw [hwt]
    exact (size_new (w.setCell ⟨cb, 1, none⟩ (.int .i64 1)) _).trans (by rw [hsz])
  have hBt : Below base w wt := by
    rw [hwt]
    exact below_drewN (((Below.refl base w).setCell (p := ⟨cb, 1, none⟩) H.out.lob _).alloc (by rw [hsz]; exact hbase) _) 1
  have hcbt : wt.heap[cb]? = some (.cells #[.int .i64 0, .int .i64 1, .slice none 0 0, .map (some mb)] 51 (0, 0)) := by
    rw [hwt]
    exact hp_new (hp_set H.out.blk 1 _)
  have htbt : wt.heap[w.heap.size]? = some (.cells #[.string s, .int .i64 1, .int .i64 1, .int .i64 0] 55 (0, 0)) := by
    rw [hwt]
    have := hp_alloc_new (w.setCell ⟨cb, 1, none⟩ (.int .i64 1)) (.cells #[.string s, .int .i64 1, .int .i64 1, .int .i64 0] 55)
    rw [hsz] at this
    exact this
  have hmt : MapAt wt Try.prog 9 mb (fun _ => none) 0 := by
    rw [hwt]
    exact ((H.out.map.set (fun e => hcm e.symm) _).alloc _).drew
  have c3t : wt.cell? ⟨cb, 3, none⟩ = some (.map (some mb)) := (kit.blk hcbt).1 3
  have HCB := Lib.hid hcbt
  have HTB := Lib.hid htbt
  have HMT := Lib.hid hmt
  clear hwt hcbt htbt hmt c0 c1 c2 c3 f1 hlk
  go_wp2_with (at_mapUpdate; refine wpl_store rfl _ _ _ 49 rfl 52 keyedS Try.underlying49 rfl HMT.out (by simp [maxLen]) _ _ kl rfl rfl HKL.out hlit ?_)
  intro w2 hm2 hgr2
  have hk2 : Keep (· = mb) wt w2 := ⟨hgr2.os, hgr2.tape, hgr2.output, hgr2.size, fun j hj hn => hgr2.block j hj (fun e => hn (Option.some.inj e))⟩
  have hcb2 := hk2.hp HCB.out hcm
  have htb2 := hk2.hp HTB.out (show ¬ w.heap.size = mb by omega)
  have hm2' : ∃ f, MapAt w2 Try.prog 9 mb f 1 ∧ f kl = some (.pointer (some ⟨w.heap.size, 0, none⟩)) := ⟨_, hm2, by simp [upd, WideAt.sameKey_self hlit]⟩
  have hB2 : Below base w w2 := hBt.trans (hk2.below (by rw [hszt]; omega) (fun j hj => by have := H.out.lom; omega))
  have hps := hpush_ok w2 cb w.heap.size 0 1 (.map (some mb)) s 1 1 0 hcb2 htb2
  have HPS := Lib.hid hps
  have HM2 := Lib.hid hm2'
  have HK2 := Lib.hid hk2
  clear hm2 hgr2 hk2 hcb2 htb2 hm2' hps
  have hsz2 : wt.heap.size ≤ w2.heap.size := HK2.out.size
  go_wp2_with fail
  refine HPS.out.mono ?_; rintro e w3 ⟨rfl, g, cap, hg, hc3, ht3, hg3, hcap, hcapm, hk3⟩
  have hmn : ¬ (mb = cb ∨ mb = w.heap.size) := by
    rintro (e | e)
    · exact hcm e.symm
    · omega
  have hE : (∃ tb g cap, One w3 base cb mb tb g cap 0 s kl) ∧ Below base w w3 := by
    refine ⟨⟨w.heap.size, g, cap, H.out.lob, H.out.lom, hbase, hc3, ht3, hg3, hcap, hcapm, ?_, by omega⟩, hB2.trans (hk3.below (by omega) (fun j hj => by have := H.out.lob; omega))⟩
    obtain ⟨f, h1, h2⟩ := HM2.out
    exact ⟨f, h1.keep hk3 hmn, h2⟩
  have HE := Lib.hid hE
  clear hE hc3 ht3 hg3 hk3
  go_wp2_with fail
  go_ret
  exact ⟨rfl, HE.out.1, HE.out.2⟩

theorem run_delete {P : Program} {w : World} {k : TypeId} {b cnt : Nat} {f : Lit → Option Value} {t e : TypeId} (h : MapAt w P k b f cnt) (K : Keyed P k) (ht : P.underlying t = some (.map k e)) {key : Value} {kl : Lit} (hkey : keyOf P k key = some kl) (ty : TypeId) :
    ∃ w', (Builtin.delete_ #[t, k] ty #[.map (some b), key]).run P w = .ok (.tuple #[]) w' ∧ w.grownBy w' (some b) := by
  obtain ⟨D, h1, _⟩ := h
  obtain ⟨w', hrun, _, r2⟩ := h1.drop K ht hkey ty
  exact ⟨w', hrun, r2.grown⟩

/-- What a Stop of the one timer leaves. -/
def Gone (w : World) (cb g cap mb : Nat) (now : Int) : Prop :=
  w.heap[cb]? = some (.cells #[.int .i64 now, .int .i64 1, .slice (some ⟨g, 0, none⟩) 0 cap, .map (some mb)] 51 (0, 0))

theorem stop_one (w : World) (base cb mb tb g cap : Nat) (now : Int) (s : ByteArray) (kl : Lit) (h : One w base cb mb tb g cap now s kl) (hbase : base ≤ w.heap.size) (hkl : keyOf Try.prog 9 (.string s) = some kl) :
    Calls Try.prog 21 #[.pointer (some ⟨cb, 0, none⟩), .string s] w fun e w' => e = .returned (.bool true) ∧ Gone w' cb g cap mb now ∧ Below base w w' := by
  have c3 : w.cell? ⟨cb, 3, none⟩ = some (.map (some mb)) := (kit.blk h.blk).1 3
  have t3 : w.cell? ⟨tb, 3, none⟩ = some (.int .i64 0) := (kit.blk h.tm).1 3
  obtain ⟨f, hf, hfk⟩ := h.map
  have hlk := hf.run_look_ok keyedS Try.underlying49 (zeroT w) hkl
  rw [hfk] at hlk
  simp only [Option.getD, Option.isSome] at hlk
  obtain ⟨es, clock, hem⟩ := hf.obj
  have hcm : cb ≠ mb := by
    rintro rfl
    rw [h.blk] at hem
    cases hem
  have hre := hremove_ok w.drew cb tb g cap now 1 (.map (some mb)) h.cap1 h.blk h.q
  have H := Lib.hid h
  have HRE := Lib.hid hre
  have HF := Lib.hid hf
  have HKL := Lib.hid hkl
  clear hf hre h hkl hem hfk
  go_enter Try.func21, Try.ntmps21
  go_wp2_with fail
  go_region_with (first | (go_at_call 30; refine HRE.out.mono ?_; rintro e w3 ⟨rfl, h1, h2⟩))
  all_goals
    have hm3 := HF.out.drew.keep h2 (fun e => hcm e.symm)
    obtain ⟨w4, hdel, hgr⟩ := run_delete hm3 keyedS Try.underlying49 HKL.out 0
    have c3' : w3.cell? ⟨cb, 3, none⟩ = some (.map (some mb)) := (kit.blk h1).1 3
    have hG : Gone w4 cb g cap mb now ∧ Below base w w4 := by
      refine ⟨(hgr.block cb (kit.blk h1).2.2 (fun e => hcm (Option.some.inj e))).trans h1, ?_⟩
      have hB : Below base w w3 := (below_drewN (Below.refl base w) 1).trans (h2.below hbase (fun j hj => by have := H.out.lob; omega))
      exact hB.grown hgr (Nat.le_trans hbase h2.size) (fun j hj => by simp at hj; have := H.out.lom; omega)
    have HG := Lib.hid hG
    clear hG hgr hm3 h1 h2
    go_wp2_with fail
    go_ret
    exact ⟨rfl, HG.out.1, HG.out.2⟩
end Go.Proofs.Ytejjnhgiijhglaa.clk
