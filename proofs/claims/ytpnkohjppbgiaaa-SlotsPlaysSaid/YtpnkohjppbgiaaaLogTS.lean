/-
  A log of string: what told tells of it (printed by wip/mklog.py).
-/
import Derived.Test.YtpnkohjppbgiaaaLogLS
import Derived.RangeFuncBox
import Derived.Maps.AppendAt
import Derived.Deep.RegionHeld3
namespace Go.Proofs.Ytpnkohjppbgiaaa.logs
open Go.ChangeShapes Go.WideShapes Go.ChangeAt Go.RowKit Go.Shelf
open Go.Proofs.Ytpnkohjppbgiaaa.kit
set_option linter.unusedVariables false
set_option linter.unusedSimpArgs false
set_option maxHeartbeats 1000000
set_option maxRecDepth 100000
attribute [local go_sem] Oper.semAt_some

/-- A list that a loop collects in a box. -/
def Coll (V : World) (b : Nat) (T E : TypeId) (size n : Nat) (xs : List Value) (W : World) : Prop :=
  ∃ a c, W.heap[b]? = some (.cells #[.slice a n c] T (0, 0)) ∧ W.ownsRow V.heap.size E size (.slice a n c) n xs ∧ Keep (fun k => k = b) V W
theorem own_grown {W W' : World} {base : Nat} {e : TypeId} {size n : Nat} {v : Value} {xs : List Value} {row : Option Nat} (h : W.ownsRow base e size v n xs) (hg : W.grownBy W' row) (hr : ∀ r, row = some r → ∃ o : Obj, W.heap[r]? = some o ∧ o.isCells = false) : W'.ownsRow base e size v n xs := by
  refine h.kept hg ?_
  rcases h.2 with ⟨rfl, _⟩ | ⟨g, cap, cur, rfl, _, hgb, _⟩
  · exact .inl rfl
  · refine .inr fun e' => ?_
    obtain ⟨o, ho, hc⟩ := hr g (by rw [← e']; rfl)
    rw [hgb] at ho; cases ho; cases hc
theorem Keep.grown' {S : Nat → Prop} {a W W' : World} {row : Option Nat} (h : Keep S a W) (hg : W.grownBy W' row) (hr : ∀ j, row = some j → a.heap.size ≤ j) : Keep S a W' :=
  ⟨hg.os.trans h.os, hg.tape.trans h.tape, hg.output.trans h.output, Nat.le_trans h.size hg.size, fun k hk hs => (hg.block k (Nat.lt_of_lt_of_le hk h.size) (fun e => by have := hr k e.symm; omega)).trans (h.block k hk hs)⟩
theorem coll_own {β : Type} (V : World) (b : Nat) (T E : TypeId) (size : Nat) (len : β → Nat) (g : β → List Value) : OwnFrom V.heap.size (fun s W => Coll V b T E size (len s) (g s) W) := by
  intro s W W' row hs hg hr
  obtain ⟨a, c, h1, h2, h3⟩ := hs
  exact ⟨a, c, blk_kept h1 hg (fun r e => (hr r e).2), own_grown h2 hg (fun r e => (hr r e).2), Keep.grown' h3 hg (fun j e => (hr j e).1)⟩
theorem coll_start {V : World} {b : Nat} {T E : TypeId} {size : Nat} (h : V.heap[b]? = some (.cells #[.slice none 0 0] T (0, 0))) : Coll V b T E size 0 [] V :=
  ⟨none, 0, h, World.ownsRow_nil _ _ _ _, Keep.refl _ _⟩
theorem coll_step {V W W1 : World} {b lo hi : Nat} {T E : TypeId} {size n c : Nat} {a : Option Addr} {xs news : List Value} {o : Obj} {v' : Value}
    (hbV : b < V.heap.size) (h1 : W.heap[b]? = some (.cells #[.slice a n c] T (0, 0))) (h2 : W.ownsRow V.heap.size E size (.slice a n c) n xs) (h3 : Keep (fun k => k = b) V W)
    (hg : (W.alloc o).grownBy W1 (Value.slice a n c).ownBlock) (hr : W1.ownsRow V.heap.size E size v' (n + 1) (xs ++ news)) (hlo : b < lo) (hhi : hi ≤ V.heap.size) :
    ∃ a' c', v' = .slice a' (n + 1) c' ∧ W1.heap[b]? = some (.cells #[.slice a n c] T (0, 0)) ∧ KeepsOthers W (W1.setCell ⟨b, 0, none⟩ v') ∧ Between lo hi W (W1.setCell ⟨b, 0, none⟩ v') ∧ (W1.setCell ⟨b, 0, none⟩ v').heap[b]? = some (.cells #[v'] T (0, 0)) ∧ Coll V b T E size (n + 1) (xs ++ news) (W1.setCell ⟨b, 0, none⟩ v') := by
  obtain ⟨a', c', rfl⟩ := own_shape hr
  have hrow : ∀ j, (Value.slice a n c).ownBlock = some j → V.heap.size ≤ j := by
    intro j e
    rcases h2.2 with ⟨e', _⟩ | ⟨g', cap, cur, e', hg', hh, _⟩
    · rw [e'] at e; simp [Value.ownBlock] at e
    · rw [e'] at e; simp only [Value.ownBlock, Option.some.injEq] at e; omega
  have hzb : b < (W.alloc o).heap.size := by have := h3.size; rw [size_new]; omega
  have hW1 : W1.heap[b]? = some (.cells #[.slice a n c] T (0, 0)) := (hg.block b hzb (fun e => by have := hrow b e.symm; omega)).trans (hp_new h1)
  have hke : KeepsOthers W (W1.setCell ⟨b, 0, none⟩ (.slice a' (n + 1) c')) := by
    refine ((KeepsOthers.alloc W o).trans (KeepsOthers.of_grownBy hg ?_)).trans (KeepsOthers.setCell _ _ _)
    intro j ob e ho
    rcases h2.2 with ⟨e', _⟩ | ⟨g', cap, cur, e', hg', hh, _⟩
    · rw [e'] at e; simp [Value.ownBlock] at e
    · rw [e'] at e; simp only [Value.ownBlock, Option.some.injEq] at e
      subst e
      rw [hp_new hh] at ho
      cases ho; rfl
  have hset : (W1.setCell ⟨b, 0, none⟩ (.slice a' (n + 1) c')).heap[b]? = some (.cells #[.slice a' (n + 1) c'] T (0, 0)) := hp_set hW1 0 _
  refine ⟨a', c', rfl, hW1, hke, ?_, hset, a', c', hset, own_kept hr (fun g hg' => hp_set_ne (a := ⟨b, 0, none⟩) (by have := (own_from hr g hg').1; show g ≠ b; omega)), (Keep.grown' (h3.alloc o) hg hrow).setCell (p := ⟨b, 0, none⟩) (.inr rfl) _⟩
  refine ((Between.of_below (below_new1 W o) (Nat.le_trans hhi h3.size)).trans ⟨hg.size, fun j _ hj => hg.block j (by have := h3.size; rw [size_new]; omega) (fun e => by have := hrow j e.symm; omega)⟩).setCell _ (.inl hlo) _

def hcel (x : Int × El) : List Value := [.int .i64 x.1, (.string (x.2))]
def hflat (l : List (Int × El)) : List Value := l.flatMap hcel
theorem hflat_snoc (l : List (Int × El)) (x : Int × El) : hflat (l ++ [x]) = hflat l ++ hcel x := by simp [hflat]
def nums (l : List Int) : List Value := l.map (Value.int .i64)
theorem nums_snoc (l : List Int) (x : Int) : nums (l ++ [x]) = nums l ++ [.int .i64 x] := by simp [nums]
theorem infoHeld : (Try.prog.info? 125).map (fun i => (i.zero, i.size, i.bytes)) = some (some (.agg #[.int .i64 0, (.string ((ByteArray.mk #[])))]), 2, 24) := by kernel_rfl
theorem infoInt' : (Try.prog.info? 3).map (fun i => (i.zero, i.size, i.bytes)) = some (some (.int .i64 0), 1, 8) := by kernel_rfl
theorem cell_two_new (w : World) (x y : Value) (t : TypeId) : ∀ j u, [x, y][j]? = some u → (w.alloc (.cells #[x, y] t)).cell? ((⟨w.heap.size, 0, none⟩ : Addr).add j) = some u := by
  intro j u hj
  have hn := blk2 (hp_alloc_new w (.cells #[x, y] t))
  match j, hj with
  | 0, hj => simp at hj; subst hj; simp [Addr.add, hn.1]
  | 1, hj => simp at hj; subst hj; simp [Addr.add, hn.2.1]
theorem fn_all (x : Array Value) (w : World) : (binOp .eql 123 (.func (.func 76) #[] x) .nilFunc).run Try.prog w = .ok (.bool false) w := by kernel_rfl
theorem fn_run (x : Array Value) (w : World) : (binOp .eql 123 (.func (.func 77) #[] x) .nilFunc).run Try.prog w = .ok (.bool false) w := by kernel_rfl
theorem fn_holes (x : Array Value) (w : World) : (binOp .eql 53 (.func (.func 78) #[] x) .nilFunc).run Try.prog w = .ok (.bool false) w := by kernel_rfl

theorem set4 {W : World} {a b c d : Nat} {x0 x1 x2 x3 v0 v1 v2 v3 : Value} {T0 T1 T2 T3 : TypeId} (h0 : W.heap[a]? = some (.cells #[x0] T0 (0, 0))) (h1 : W.heap[b]? = some (.cells #[x1] T1 (0, 0))) (h2 : W.heap[c]? = some (.cells #[x2] T2 (0, 0))) (h3 : W.heap[d]? = some (.cells #[x3] T3 (0, 0)))
    (e1 : a ≠ b) (e2 : a ≠ c) (e3 : a ≠ d) (e4 : b ≠ c) (e5 : b ≠ d) (e6 : c ≠ d) :
    (((((W.setCell ⟨a, 0, none⟩ v0).setCell ⟨b, 0, none⟩ v1).setCell ⟨c, 0, none⟩ v2).setCell ⟨d, 0, none⟩ v3).drew).heap[a]? = some (.cells #[v0] T0 (0, 0)) ∧
    (((((W.setCell ⟨a, 0, none⟩ v0).setCell ⟨b, 0, none⟩ v1).setCell ⟨c, 0, none⟩ v2).setCell ⟨d, 0, none⟩ v3).drew).heap[b]? = some (.cells #[v1] T1 (0, 0)) ∧
    (((((W.setCell ⟨a, 0, none⟩ v0).setCell ⟨b, 0, none⟩ v1).setCell ⟨c, 0, none⟩ v2).setCell ⟨d, 0, none⟩ v3).drew).heap[c]? = some (.cells #[v2] T2 (0, 0)) ∧
    (((((W.setCell ⟨a, 0, none⟩ v0).setCell ⟨b, 0, none⟩ v1).setCell ⟨c, 0, none⟩ v2).setCell ⟨d, 0, none⟩ v3).drew).heap[d]? = some (.cells #[v3] T3 (0, 0)) ∧
    ∀ k, k ≠ a → k ≠ b → k ≠ c → k ≠ d → (((((W.setCell ⟨a, 0, none⟩ v0).setCell ⟨b, 0, none⟩ v1).setCell ⟨c, 0, none⟩ v2).setCell ⟨d, 0, none⟩ v3).drew).heap[k]? = W.heap[k]? := by
  refine ⟨?_, ?_, ?_, ?_, fun k k1 k2 k3 k4 => ?_⟩
  · exact (hp_set_ne e3).trans ((hp_set_ne e2).trans ((hp_set_ne e1).trans (hp_set h0 0 v0)))
  · exact (hp_set_ne e5).trans ((hp_set_ne e4).trans (hp_set ((hp_set_ne (Ne.symm e1)).trans h1) 0 v1))
  · exact (hp_set_ne e6).trans (hp_set ((hp_set_ne (Ne.symm e4)).trans ((hp_set_ne (Ne.symm e2)).trans h2)) 0 v2)
  · exact hp_set ((hp_set_ne (Ne.symm e6)).trans ((hp_set_ne (Ne.symm e5)).trans ((hp_set_ne (Ne.symm e3)).trans h3))) 0 v3
  · exact (hp_set_ne k4).trans ((hp_set_ne k3).trans ((hp_set_ne k2).trans (hp_set_ne k1)))
theorem put_keeps {X WF : World} {D : Nat} {o : Obj} (h : X = WF.putObj D o) : WF.grownBy X (some D) ∧ ∀ k, k ≠ D → k < WF.heap.size → X.heap[k]? = WF.heap[k]? := by
  rw [h]
  have := grownBy_putObj' WF D o
  exact ⟨this, fun k hk hz => this.block k hz (fun e => hk (Option.some.inj e))⟩
theorem runF_len (i : Int) (cs : List (El × Bool)) : (runF i cs).length ≤ cs.length := by
  have h1 := allF_len i (cs.take (nextN cs))
  rw [List.length_take] at h1
  unfold runF
  omega
theorem holesF_len (i : Int) (cs : List (El × Bool)) : (holesF i cs).length ≤ cs.length := by
  induction cs generalizing i with
  | nil => simp [holesF]
  | cons c cs ih =>
    have := ih (i + 1)
    simp only [holesF]
    split <;> simp <;> omega
def Got (base b : Nat) (T E : TypeId) (size n : Nat) (xs : List Value) (W : World) : Prop :=
  ∃ a c, W.heap[b]? = some (.cells #[.slice a n c] T (0, 0)) ∧ W.ownsRow base E size (.slice a n c) n xs
theorem got_keep {base b b' : Nat} {T E : TypeId} {size n : Nat} {xs : List Value} {W W' : World} (h : Got base b T E size n xs W) (k : Keep (fun j => j = b') W W') (h1 : b ≠ b') (h2 : b' < base) : Got base b T E size n xs W' := by
  obtain ⟨a, c, g1, g2⟩ := h
  exact ⟨a, c, k.hp g1 h1, own_kept g2 (fun g hg => k.block g (own_from g2 g hg).2 (by have := (own_from g2 g hg).1; omega))⟩

theorem told_ok (w : World) (base b : Nat) (f m : Int) (cs : List (El × Bool)) (h : LogAt w base b f m cs) (hF : Fit f m cs) :
    Calls Try.prog 61 #[.pointer (some ⟨b, 0, none⟩)] w fun e w' => ∃ v0 v1 v2, e = .returned (.tuple #[v0, v1, v2, .bool true]) ∧ Below w.heap.size w w' ∧
      w'.ownsRow w.heap.size 125 2 v0 (allF f cs).length (hflat (allF f cs)) ∧ w'.ownsRow w.heap.size 125 2 v1 (runF f cs).length (hflat (runF f cs)) ∧ w'.ownsRow w.heap.size 3 1 v2 (holesF f cs).length (nums (holesF f cs)) := by
  refine (callsIn_wide (n := 5)).1 ?_
  refine callsIn_of_wp_marks Try.func61 rfl trivial ?_ rfl
  simp only [Try.ntmps61, List.size_toArray, List.length_cons, List.length_nil, Nat.reduceAdd, Nat.reduceSub, Array.replicate_succ, Array.replicate_zero, List.push_toArray, List.append_toArray, List.nil_append, List.cons_append]
  have hq1 := fn_all
  have hq2 := fn_run
  have hq3 := fn_holes
  have hlen := hF.len; have hf1 := hF.f1; have hf2 := hF.f2; have hm2 := hF.m2
  have hl1024 : cs.length ≤ 1024 := by omega
  obtain ⟨w0, hw0⟩ : ∃ w0 : World, w0 = ((((w.alloc (.cells #[.slice none 0 0] 111)).alloc (.cells #[.slice none 0 0] 111)).alloc (.cells #[.slice none 0 0] 56)).alloc (.cells #[.bool false] 4)) := ⟨_, rfl⟩
  have hn3 := new3 w (.cells #[.slice none 0 0] 111) (.cells #[.slice none 0 0] 111) (.cells #[.slice none 0 0] 56)
  have ha0 : w0.heap[w.heap.size]? = some (.cells #[.slice none 0 0] 111 (0, 0)) := by rw [hw0]; exact hp_new hn3.1
  have ha1 : w0.heap[w.heap.size + 1]? = some (.cells #[.slice none 0 0] 111 (0, 0)) := by rw [hw0]; exact hp_new hn3.2.1
  have ha2 : w0.heap[w.heap.size + 1 + 1]? = some (.cells #[.slice none 0 0] 56 (0, 0)) := by rw [hw0]; exact hp_new hn3.2.2.1
  have ha3 : w0.heap[w.heap.size + 1 + 1 + 1]? = some (.cells #[.bool false] 4 (0, 0)) := by
    rw [hw0]
    have := hp_alloc_new (((w.alloc (.cells #[.slice none 0 0] 111)).alloc (.cells #[.slice none 0 0] 111)).alloc (.cells #[.slice none 0 0] 56)) (.cells #[.bool false] 4)
    rw [hn3.2.2.2] at this
    exact this
  have hBa : Below w.heap.size w w0 := by rw [hw0]; exact (below_new3 w _ _ _).alloc (by rw [hn3.2.2.2]; omega) _
  have hsz0 : w0.heap.size = w.heap.size + 4 := by rw [hw0, size_new, hn3.2.2.2]
  gi_wp2
  rw [← hw0]
  clear hw0 hn3
  have hL0 := h.below hBa
  refine ⟨trivial, ?_⟩
  refine (callsIn_wide.2 (all_ok w0 base b f m cs hL0 hF)).mono ?_
  rintro e w1 ⟨A, A', rfl, hiA, hb1⟩
  have hL1 := hL0.below hb1
  gi_wp2
  refine ⟨trivial, ?_⟩
  refine (callsIn_wide.2 (run_ok w1 base b f m cs hL1 hF)).mono ?_
  rintro e w2 ⟨R, R', rfl, hiR, hb2⟩
  have hL2 := hL1.below hb2
  gi_wp2
  refine ⟨trivial, ?_⟩
  refine (callsIn_wide.2 (holes_ok w2 base b f m cs hL2 hF)).mono ?_
  rintro e w4 ⟨O, O', rfl, hiO, hb3⟩
  have hb14 : Below w1.heap.size w1 w4 := below_step hb2 hb3
  have hb04 : Below w0.heap.size w0 w4 := below_step hb1 hb14
  have hBw : Below w.heap.size w w4 := below_step hBa hb04
  have hiA4 := hiA.below hb14 (Nat.le_refl _)
  have hiR4 := hiR.below hb3 (Nat.le_refl _)
  have hr0 := hp_step ha0 hb04
  have hr1 := hp_step ha1 hb04
  have hr2 := hp_step ha2 hb04
  have hr3 := hp_step ha3 hb04
  have hs4 := (blk1 hr3).2.2
  have hs01 := hb1.size
  have hs12 := hb2.size
  have hs24 := hb3.size
  clear hb1 hb2 hb3 hb14 hb04 ha0 ha1 ha2 ha3 hBa hL0 hL1 hL2 hiA hiR
  gi_wp2
  have hs1 := hr0
  refine wpIn_rangeFunc_ownF rfl (by omega) (gf := 76) (lb := #[.pointer (some ⟨A, 0, none⟩), .pointer (some ⟨A', 0, none⟩)]) rfl trivial (enters_of Try.func76 (by kernel_rfl) rfl)
    (all_it 4 (by omega) _ _ A A' f cs w4 hiA4 (by omega) (by omega) hf2 hl1024) Between.trans (between_b (by omega)) (Below.refl _ _) (fun _ => rfl)
    (fun pre W => Coll w4 (w.heap.size) 111 125 2 pre.length (hflat pre) W) (fun _ _ _ => False) (coll_own w4 (w.heap.size) 111 125 2 _ _) (fun _ _ _ _ _ hs _ _ => hs) (coll_start hs1)
    (fun x => { tmps := #[.pointer (some ⟨b, 0, none⟩), undef, .pointer (some ⟨w.heap.size, 0, none⟩), .pointer (some ⟨w.heap.size + 1, 0, none⟩), .pointer (some ⟨w.heap.size + 1 + 1, 0, none⟩), .pointer (some ⟨w.heap.size + 1 + 1 + 1, 0, none⟩), .func (.func 76) #[] #[.pointer (some ⟨A, 0, none⟩), .pointer (some ⟨A', 0, none⟩)], .func (.func 77) #[] #[.pointer (some ⟨R, 0, none⟩), .pointer (some ⟨R', 0, none⟩)], .func (.func 78) #[] #[.pointer (some ⟨O, 0, none⟩), .pointer (some ⟨O', 0, none⟩)], .int .i64 x.1, (.string (x.2)), undef, undef, undef, .pointer (some ⟨b, 0, none⟩), .func (.func 76) #[] #[.pointer (some ⟨A, 0, none⟩), .pointer (some ⟨A', 0, none⟩)], .pointer (some ⟨b, 0, none⟩), .func (.func 77) #[] #[.pointer (some ⟨R, 0, none⟩), .pointer (some ⟨R', 0, none⟩)], .pointer (some ⟨b, 0, none⟩), .func (.func 78) #[] #[.pointer (some ⟨O, 0, none⟩), .pointer (some ⟨O', 0, none⟩)], .func (.func 76) #[] #[.pointer (some ⟨A, 0, none⟩), .pointer (some ⟨A', 0, none⟩)], .bool false, .bool false, .func (.func 77) #[] #[.pointer (some ⟨R, 0, none⟩), .pointer (some ⟨R', 0, none⟩)], .bool false, .bool false, .bool false, .func (.func 78) #[] #[.pointer (some ⟨O, 0, none⟩), .pointer (some ⟨O', 0, none⟩)], .bool false, .bool false, .func (.func 76) #[] #[.pointer (some ⟨A, 0, none⟩), .pointer (some ⟨A', 0, none⟩)], .int .i64 x.1, (.string (x.2)), undef, undef, undef, undef, undef, undef, undef, undef, undef, undef, undef, undef, undef, undef, undef, undef, undef, undef, undef, undef, undef, undef, undef, undef, undef, undef, undef, undef, undef, undef, undef, undef, undef], defers := [] }) ?assign1 ?body1 ?done1 ?stop1
  case assign1 =>
    intro l x W K hK
    gi_wp2
    simpa using hK
  case stop1 => intro D c pre W hD hSp h; exact h.elim
  case body1 =>
    rintro l pre x W ⟨a, c, hb, hr, hK⟩ hlt
    have hlt2 : pre.length < 1024 := by have := allF_len f cs; omega
    obtain ⟨q0, q1, q2⟩ := blk1 hb
    obtain ⟨j0, hj, hy0, hy1, hy2⟩ := info_parts infoHeld
    have hKs := hK.size
    have HB := Lib.hid hb
    have HR := Lib.hid hr
    have HK := Lib.hid hK
    clear hb hr hK
    gi_wp2_with (gi_at_builtin; refine wpListIn_append_own _ rfl _ _ 111 rfl w4.heap.size 125 j0 (.agg #[.int .i64 0, (.string ((ByteArray.mk #[])))]) 2 24 Try.underlying111 hj hy0 hy1 hy2 rfl (by decide) _ _ _ rfl (HR.out.alloc _) ⟨W.heap.size, 0, none⟩ 1 1 (hcel x) rfl rfl (cell_two_new _ _ _ _) (by simp [hcel, Value.oneCell']) (by unfold maxLen; omega) (by omega) (by rw [size_new]; omega) ?_; intro v' W1 hown' hgrow _; obtain ⟨a5, c5, rfl, hW1, hke, hbt, hset, hco⟩ := coll_step (lo := w0.heap.size) (hi := w1.heap.size) (by omega) HB.out HR.out HK.out hgrow hown' (by omega) (by omega); obtain ⟨e0, e1, e2⟩ := blk1 hW1; have hsc := (blk1 hset).1; have HW1 := Lib.hid hset; have HKE := Lib.hid hke; have HBT := Lib.hid hbt; have HCO := Lib.hid hco; clear hown' hgrow hW1 hke hbt hset hco)
    exact ⟨HKE.out, HBT.out, by dsimp only; rw [List.length_append, hflat_snoc]; exact HCO.out⟩
  case done1 =>
    rintro D1 xs1 W1 hD1 rfl ⟨a1, c1, hg1, ho1, hk1⟩ hK1
    have hG1 : Got w4.heap.size (w.heap.size) 111 125 2 (allF f cs).length (hflat (allF f cs)) W1 := ⟨a1, c1, hg1, ho1⟩
    have hB1 : Below w.heap.size w W1 := hBw.trans (hk1.below (Nat.le_of_lt (by omega)) (fun k hk => by omega))
    have hsz1 := hk1.size
    have hiR5 := hiR4.between ⟨hk1.size, fun j h1 h2 => hk1.block j (by omega) (by omega)⟩
    have hiO5 := hiO.between ⟨hk1.size, fun j h1 h2 => hk1.block j (by omega) (by omega)⟩
    have hs2 := hk1.hp hr1 (by omega)
    have hu2 := hk1.hp hr2 (by omega)
    have hu3 := hk1.hp hr3 (by omega)
    have hzD1 : D1 < W1.heap.size := (Array.getElem?_eq_some_iff.1 hK1).1
    clear hk1 hg1 ho1 hr1 hr2 hr3
    gi_wp2
    refine wpIn_rangeFunc_ownF rfl (by omega) (gf := 77) (lb := #[.pointer (some ⟨R, 0, none⟩), .pointer (some ⟨R', 0, none⟩)]) rfl trivial (enters_of Try.func77 (by kernel_rfl) rfl)
      (run_it 4 (by omega) _ _ R R' f cs W1 hiR5 (by omega) (by omega) hf2 hl1024) Between.trans (between_b (by omega)) (Below.refl _ _) (fun _ => rfl)
      (fun pre W => Coll W1 (w.heap.size + 1) 111 125 2 pre.length (hflat pre) W) (fun _ _ _ => False) (coll_own W1 (w.heap.size + 1) 111 125 2 _ _) (fun _ _ _ _ _ hs _ _ => hs) (coll_start hs2)
      (fun x => { tmps := #[.pointer (some ⟨b, 0, none⟩), undef, .pointer (some ⟨w.heap.size, 0, none⟩), .pointer (some ⟨w.heap.size + 1, 0, none⟩), .pointer (some ⟨w.heap.size + 1 + 1, 0, none⟩), .pointer (some ⟨w.heap.size + 1 + 1 + 1, 0, none⟩), .func (.func 76) #[] #[.pointer (some ⟨A, 0, none⟩), .pointer (some ⟨A', 0, none⟩)], .func (.func 77) #[] #[.pointer (some ⟨R, 0, none⟩), .pointer (some ⟨R', 0, none⟩)], .func (.func 78) #[] #[.pointer (some ⟨O, 0, none⟩), .pointer (some ⟨O', 0, none⟩)], undef, undef, .int .i64 x.1, (.string (x.2)), undef, .pointer (some ⟨b, 0, none⟩), .func (.func 76) #[] #[.pointer (some ⟨A, 0, none⟩), .pointer (some ⟨A', 0, none⟩)], .pointer (some ⟨b, 0, none⟩), .func (.func 77) #[] #[.pointer (some ⟨R, 0, none⟩), .pointer (some ⟨R', 0, none⟩)], .pointer (some ⟨b, 0, none⟩), .func (.func 78) #[] #[.pointer (some ⟨O, 0, none⟩), .pointer (some ⟨O', 0, none⟩)], .func (.func 76) #[] #[.pointer (some ⟨A, 0, none⟩), .pointer (some ⟨A', 0, none⟩)], .bool false, .bool false, .func (.func 77) #[] #[.pointer (some ⟨R, 0, none⟩), .pointer (some ⟨R', 0, none⟩)], .bool false, .bool false, .bool false, .func (.func 78) #[] #[.pointer (some ⟨O, 0, none⟩), .pointer (some ⟨O', 0, none⟩)], .bool false, .bool false, .func (.func 76) #[] #[.pointer (some ⟨A, 0, none⟩), .pointer (some ⟨A', 0, none⟩)], undef, undef, undef, undef, undef, undef, undef, undef, undef, undef, undef, .func (.func 77) #[] #[.pointer (some ⟨R, 0, none⟩), .pointer (some ⟨R', 0, none⟩)], .int .i64 x.1, (.string (x.2)), undef, undef, undef, undef, undef, undef, undef, undef, undef, undef, undef, undef, undef, undef, undef, undef, undef, undef, undef, undef, undef], defers := [] }) ?assign2 ?body2 ?done2 ?stop2
    case assign2 =>
      intro l x W K hK
      gi_wp2
      simpa using hK
    case stop2 => intro D c pre W hD hSp h; exact h.elim
    case body2 =>
      rintro l pre x W ⟨a, c, hb, hr, hK⟩ hlt
      have hlt2 : pre.length < 1024 := by have := runF_len f cs; omega
      obtain ⟨q0, q1, q2⟩ := blk1 hb
      obtain ⟨j0, hj, hy0, hy1, hy2⟩ := info_parts infoHeld
      have hKs := hK.size
      have HB := Lib.hid hb
      have HR := Lib.hid hr
      have HK := Lib.hid hK
      clear hb hr hK
      gi_wp2_with (gi_at_builtin; refine wpListIn_append_own _ rfl _ _ 111 rfl W1.heap.size 125 j0 (.agg #[.int .i64 0, (.string ((ByteArray.mk #[])))]) 2 24 Try.underlying111 hj hy0 hy1 hy2 rfl (by decide) _ _ _ rfl (HR.out.alloc _) ⟨W.heap.size, 0, none⟩ 1 1 (hcel x) rfl rfl (cell_two_new _ _ _ _) (by simp [hcel, Value.oneCell']) (by unfold maxLen; omega) (by omega) (by rw [size_new]; omega) ?_; intro v' W1 hown' hgrow _; obtain ⟨a5, c5, rfl, hW1, hke, hbt, hset, hco⟩ := coll_step (lo := w1.heap.size) (hi := w2.heap.size) (by omega) HB.out HR.out HK.out hgrow hown' (by omega) (by omega); obtain ⟨e0, e1, e2⟩ := blk1 hW1; have hsc := (blk1 hset).1; have HW1 := Lib.hid hset; have HKE := Lib.hid hke; have HBT := Lib.hid hbt; have HCO := Lib.hid hco; clear hown' hgrow hW1 hke hbt hset hco)
      exact ⟨HKE.out, HBT.out, by dsimp only; rw [List.length_append, hflat_snoc]; exact HCO.out⟩
    case done2 =>
      rintro D2 xs2 W2 hD2 rfl ⟨a2, c2, hg2, ho2, hk2⟩ hK2
      have hG1' := got_keep hG1 hk2 (by omega) (by omega)
      have hG2 : Got W1.heap.size (w.heap.size + 1) 111 125 2 (runF f cs).length (hflat (runF f cs)) W2 := ⟨a2, c2, hg2, ho2⟩
      have hB2 : Below w.heap.size w W2 := hB1.trans (hk2.below (Nat.le_of_lt (by omega)) (fun k hk => by omega))
      have hsz2 := hk2.size
      have hiO6 := hiO5.between ⟨hk2.size, fun j h1 h2 => hk2.block j (by omega) (by omega)⟩
      have hs3 := hk2.hp hu2 (by omega)
      have hu3' := hk2.hp hu3 (by omega)
      have hK1' := hk2.hp hK1 (by omega)
      have hzD2 : D2 < W2.heap.size := (Array.getElem?_eq_some_iff.1 hK2).1
      clear hk2 hg2 ho2 hu2 hu3 hG1
      gi_wp2
      refine wpIn_rangeFunc_ownF rfl (by omega) (gf := 78) (lb := #[.pointer (some ⟨O, 0, none⟩), .pointer (some ⟨O', 0, none⟩)]) rfl trivial (enters_of Try.func78 (by kernel_rfl) rfl)
        (holes_it 4 (by omega) _ _ O O' f cs W2 hiO6 (by omega) (by omega) hf2 hl1024) Between.trans (between_b (by omega)) (Below.refl _ _) (fun _ => rfl)
        (fun pre W => Coll W2 (w.heap.size + 1 + 1) 56 3 1 pre.length (nums pre) W) (fun _ _ _ => False) (coll_own W2 (w.heap.size + 1 + 1) 56 3 1 _ _) (fun _ _ _ _ _ hs _ _ => hs) (coll_start hs3)
        (fun x => { tmps := #[.pointer (some ⟨b, 0, none⟩), undef, .pointer (some ⟨w.heap.size, 0, none⟩), .pointer (some ⟨w.heap.size + 1, 0, none⟩), .pointer (some ⟨w.heap.size + 1 + 1, 0, none⟩), .pointer (some ⟨w.heap.size + 1 + 1 + 1, 0, none⟩), .func (.func 76) #[] #[.pointer (some ⟨A, 0, none⟩), .pointer (some ⟨A', 0, none⟩)], .func (.func 77) #[] #[.pointer (some ⟨R, 0, none⟩), .pointer (some ⟨R', 0, none⟩)], .func (.func 78) #[] #[.pointer (some ⟨O, 0, none⟩), .pointer (some ⟨O', 0, none⟩)], undef, undef, undef, undef, .int .i64 x, .pointer (some ⟨b, 0, none⟩), .func (.func 76) #[] #[.pointer (some ⟨A, 0, none⟩), .pointer (some ⟨A', 0, none⟩)], .pointer (some ⟨b, 0, none⟩), .func (.func 77) #[] #[.pointer (some ⟨R, 0, none⟩), .pointer (some ⟨R', 0, none⟩)], .pointer (some ⟨b, 0, none⟩), .func (.func 78) #[] #[.pointer (some ⟨O, 0, none⟩), .pointer (some ⟨O', 0, none⟩)], .func (.func 76) #[] #[.pointer (some ⟨A, 0, none⟩), .pointer (some ⟨A', 0, none⟩)], .bool false, .bool false, .func (.func 77) #[] #[.pointer (some ⟨R, 0, none⟩), .pointer (some ⟨R', 0, none⟩)], .bool false, .bool false, .bool false, .func (.func 78) #[] #[.pointer (some ⟨O, 0, none⟩), .pointer (some ⟨O', 0, none⟩)], .bool false, .bool false, .func (.func 76) #[] #[.pointer (some ⟨A, 0, none⟩), .pointer (some ⟨A', 0, none⟩)], undef, undef, undef, undef, undef, undef, undef, undef, undef, undef, undef, .func (.func 77) #[] #[.pointer (some ⟨R, 0, none⟩), .pointer (some ⟨R', 0, none⟩)], undef, undef, undef, undef, undef, undef, undef, undef, undef, undef, undef, .func (.func 78) #[] #[.pointer (some ⟨O, 0, none⟩), .pointer (some ⟨O', 0, none⟩)], .int .i64 x, undef, undef, undef, undef, undef, undef, undef, undef, undef, undef], defers := [] }) ?assign3 ?body3 ?done3 ?stop3
      case assign3 =>
        intro l x W K hK
        gi_wp2
        simpa using hK
      case stop3 => intro D c pre W hD hSp h; exact h.elim
      case body3 =>
        rintro l pre x W ⟨a, c, hb, hr, hK⟩ hlt
        have hlt2 : pre.length < 1024 := by have := holesF_len f cs; omega
        obtain ⟨q0, q1, q2⟩ := blk1 hb
        obtain ⟨j0, hj, hy0, hy1, hy2⟩ := info_parts infoInt'
        have hKs := hK.size
        have HB := Lib.hid hb
        have HR := Lib.hid hr
        have HK := Lib.hid hK
        clear hb hr hK
        gi_wp2_with (gi_at_builtin; refine wpListIn_append_own _ rfl _ _ 56 rfl W2.heap.size 3 j0 (.int .i64 0) 1 8 Try.underlying56 hj hy0 hy1 hy2 rfl (by decide) _ _ _ rfl (HR.out.alloc _) ⟨W.heap.size, 0, none⟩ 1 1 [.int .i64 x] rfl rfl (cell_one_new _ _ _) (by simp [hcel, Value.oneCell']) (by unfold maxLen; omega) (by omega) (by rw [size_new]; omega) ?_; intro v' W1 hown' hgrow _; obtain ⟨a5, c5, rfl, hW1, hke, hbt, hset, hco⟩ := coll_step (lo := w2.heap.size) (hi := w4.heap.size) (by omega) HB.out HR.out HK.out hgrow hown' (by omega) (by omega); obtain ⟨e0, e1, e2⟩ := blk1 hW1; have hsc := (blk1 hset).1; have HW1 := Lib.hid hset; have HKE := Lib.hid hke; have HBT := Lib.hid hbt; have HCO := Lib.hid hco; clear hown' hgrow hW1 hke hbt hset hco)
        exact ⟨HKE.out, HBT.out, by dsimp only; rw [List.length_append, nums_snoc]; exact HCO.out⟩
      case done3 =>
        rintro D3 xs3 W hD3 rfl ⟨a3, c3, hg3, ho3, hk3⟩ hK3
        obtain ⟨a1, c1, g0, o0⟩ := got_keep hG1' hk3 (by omega) (by omega)
        obtain ⟨a2, c2, g1, o1⟩ := got_keep hG2 hk3 (by omega) (by omega)
        have hBW : Below w.heap.size w W := hB2.trans (hk3.below (Nat.le_of_lt (by omega)) (fun k hk => by omega))
        have hK2' := hk3.hp hK2 (by omega)
        have hK1'' := hk3.hp hK1' (by omega)
        have g3 := hk3.hp hu3' (by omega)
        have hsz3 := hk3.size
        clear hk3 hG1' hG2
        obtain ⟨k0, f0, z0⟩ := blk1 g0
        obtain ⟨k1, f1, z1⟩ := blk1 g1
        obtain ⟨k2, f2, z2⟩ := blk1 hg3
        obtain ⟨k3, f3, z3⟩ := blk1 g3
        gi_wp2
        refine Code.wpIn_mono NoPanic.imp ?_
        gi_region_with (first | fail)
        all_goals
          refine NoPanic.normal ?_
          gi_wp2
          obtain ⟨WF, hWF⟩ : ∃ WF : World, WF = ((((W.setCell ⟨w.heap.size, 0, none⟩ (.slice a1 (allF f cs).length c1)).setCell ⟨w.heap.size + 1, 0, none⟩ (.slice a2 (runF f cs).length c2)).setCell ⟨w.heap.size + 1 + 1, 0, none⟩ (.slice a3 (holesF f cs).length c3)).setCell ⟨w.heap.size + 1 + 1 + 1, 0, none⟩ (.bool true)).drew := ⟨_, rfl⟩
          rw [← hWF]
          have hF := set4 (v0 := .slice a1 (allF f cs).length c1) (v1 := .slice a2 (runF f cs).length c2) (v2 := .slice a3 (holesF f cs).length c3) (v3 := .bool true) g0 g1 hg3 g3 (by omega) (by omega) (by omega) (by omega) (by omega) (by omega)
          rw [← hWF] at hF
          obtain ⟨m0, m1, m2, m3, ko⟩ := hF
          have hBF : Below w.heap.size w WF := by
            rw [hWF]
            exact below_drewN ((((hBW.setCell (p := ⟨w.heap.size, 0, none⟩) (Nat.le_refl _) _).setCell (p := ⟨w.heap.size + 1, 0, none⟩) (by simp) _).setCell (p := ⟨w.heap.size + 1 + 1, 0, none⟩) (by simp; omega) _).setCell (p := ⟨w.heap.size + 1 + 1 + 1, 0, none⟩) (by simp; omega) _) 1
          have u0 : WF.ownsRow w.heap.size 125 2 (.slice a1 (allF f cs).length c1) (allF f cs).length (hflat (allF f cs)) := own_mono (own_kept o0 (fun g hg => ko g (by have := (own_from o0 g hg).1; omega) (by have := (own_from o0 g hg).1; omega) (by have := (own_from o0 g hg).1; omega) (by have := (own_from o0 g hg).1; omega))) (by omega)
          have u1 : WF.ownsRow w.heap.size 125 2 (.slice a2 (runF f cs).length c2) (runF f cs).length (hflat (runF f cs)) := own_mono (own_kept o1 (fun g hg => ko g (by have := (own_from o1 g hg).1; omega) (by have := (own_from o1 g hg).1; omega) (by have := (own_from o1 g hg).1; omega) (by have := (own_from o1 g hg).1; omega))) (by omega)
          have u2 : WF.ownsRow w.heap.size 3 1 (.slice a3 (holesF f cs).length c3) (holesF f cs).length (nums (holesF f cs)) := own_mono (own_kept ho3 (fun g hg => ko g (by have := (own_from ho3 g hg).1; omega) (by have := (own_from ho3 g hg).1; omega) (by have := (own_from ho3 g hg).1; omega) (by have := (own_from ho3 g hg).1; omega))) (by omega)
          have q3 := (ko D3 (by omega) (by omega) (by omega) (by omega)).trans hK3
          have q2 := (ko D2 (by omega) (by omega) (by omega) (by omega)).trans hK2'
          have q1 := (ko D1 (by omega) (by omega) (by omega) (by omega)).trans hK1''
          clear hWF ko
          refine ⟨by simp, .inl ⟨_, _, rfl, run_takeDeferred q3, ?_⟩⟩
          obtain ⟨X3, hX3⟩ : ∃ X, X = WF.putObj D3 (.deferred none) := ⟨_, rfl⟩
          have p3 := put_keeps hX3
          have y0 := ownsRow_putObj u0 (.deferred none) q3 rfl
          have y1 := ownsRow_putObj u1 (.deferred none) q3 rfl
          have y2 := ownsRow_putObj u2 (.deferred none) q3 rfl
          rw [← hX3] at y0 y1 y2 ⊢
          have z0 := (Array.getElem?_eq_some_iff.1 m0).1
          have z1 := (Array.getElem?_eq_some_iff.1 m1).1
          have z2 := (Array.getElem?_eq_some_iff.1 m2).1
          have z3 := (Array.getElem?_eq_some_iff.1 m3).1
          have q2' := (p3.2 D2 (by omega) (Array.getElem?_eq_some_iff.1 q2).1).trans q2
          have q1' := (p3.2 D1 (by omega) (Array.getElem?_eq_some_iff.1 q1).1).trans q1
          have l0 := (p3.2 _ (by omega) z0).trans m0
          have l1 := (p3.2 _ (by omega) z1).trans m1
          have l2 := (p3.2 _ (by omega) z2).trans m2
          have l3 := (p3.2 _ (by omega) z3).trans m3
          have hB3 : Below w.heap.size w X3 := hBF.grown p3.1 hBF.size (fun j hj => by simp at hj; omega)
          clear m0 m1 m2 m3 q1 q2 q3 p3 hX3 z0 z1 z2 z3 u0 u1 u2
          refine ⟨by simp, .inl ⟨_, _, rfl, run_takeDeferred q2', ?_⟩⟩
          obtain ⟨X2, hX2⟩ : ∃ X, X = X3.putObj D2 (.deferred none) := ⟨_, rfl⟩
          have p2 := put_keeps hX2
          have u0 := ownsRow_putObj y0 (.deferred none) q2' rfl
          have u1 := ownsRow_putObj y1 (.deferred none) q2' rfl
          have u2 := ownsRow_putObj y2 (.deferred none) q2' rfl
          rw [← hX2] at u0 u1 u2 ⊢
          have q1'' := (p2.2 D1 (by omega) (Array.getElem?_eq_some_iff.1 q1').1).trans q1'
          have m0 := (p2.2 _ (by omega) (Array.getElem?_eq_some_iff.1 l0).1).trans l0
          have m1 := (p2.2 _ (by omega) (Array.getElem?_eq_some_iff.1 l1).1).trans l1
          have m2 := (p2.2 _ (by omega) (Array.getElem?_eq_some_iff.1 l2).1).trans l2
          have m3 := (p2.2 _ (by omega) (Array.getElem?_eq_some_iff.1 l3).1).trans l3
          have hB2 : Below w.heap.size w X2 := hB3.grown p2.1 hB3.size (fun j hj => by simp at hj; omega)
          clear l0 l1 l2 l3 q1' q2' p2 hX2 y0 y1 y2
          refine ⟨by simp, .inl ⟨_, _, rfl, run_takeDeferred q1'', ?_⟩⟩
          obtain ⟨X1, hX1⟩ : ∃ X, X = X2.putObj D1 (.deferred none) := ⟨_, rfl⟩
          have p1 := put_keeps hX1
          have y0 := ownsRow_putObj u0 (.deferred none) q1'' rfl
          have y1 := ownsRow_putObj u1 (.deferred none) q1'' rfl
          have y2 := ownsRow_putObj u2 (.deferred none) q1'' rfl
          rw [← hX1] at y0 y1 y2 ⊢
          have n0 := (p1.2 _ (by omega) (Array.getElem?_eq_some_iff.1 m0).1).trans m0
          have n1 := (p1.2 _ (by omega) (Array.getElem?_eq_some_iff.1 m1).1).trans m1
          have n2 := (p1.2 _ (by omega) (Array.getElem?_eq_some_iff.1 m2).1).trans m2
          have n3 := (p1.2 _ (by omega) (Array.getElem?_eq_some_iff.1 m3).1).trans m3
          have hB1 : Below w.heap.size w X1 := hB2.grown p1.1 hB2.size (fun j hj => by simp at hj; omega)
          have r0 := (blk1 n0).1
          have r1 := (blk1 n1).1
          have r2 := (blk1 n2).1
          have r3 := (blk1 n3).1
          clear n0 n1 n2 n3 m0 m1 m2 m3 p1 hX1 q1'' hq1 hq2 hq3 u0 u1 u2
          exact ⟨.tuple #[.slice a1 (allF f cs).length c1, .slice a2 (runF f cs).length c2, .slice a3 (holesF f cs).length c3, .bool true], by simp [results, Try.results61, go_sem, r0, r1, r2, r3, Result.andThen], _, _, _, rfl, hB1, y0, y1, y2⟩
end Go.Proofs.Ytpnkohjppbgiaaa.logs
