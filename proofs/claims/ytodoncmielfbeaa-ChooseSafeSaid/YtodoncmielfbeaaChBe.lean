/-
  ballot.Best at casts, with the closures of Open and Chosen (printed by wip/mkchbe.py).
-/
import Derived.Test.YtodoncmielfbeaaChK
namespace Go.Proofs.Ytodoncmielfbeaa.chbe
open Go.ChangeShapes Go.WideShapes Go.ChangeAt Go.RowKit
open Go.Proofs.Ytodoncmielfbeaa.kit Go.Proofs.Ytodoncmielfbeaa.mapkit Go.Proofs.Ytodoncmielfbeaa.byt Go.Proofs.Ytodoncmielfbeaa.own Go.Proofs.Ytodoncmielfbeaa.accd Go.Proofs.Ytodoncmielfbeaa.chd Go.Proofs.Ytodoncmielfbeaa.chb Go.Proofs.Ytodoncmielfbeaa.che Go.Proofs.Ytodoncmielfbeaa.chk
set_option linter.unusedVariables false
set_option linter.unusedSimpArgs false
set_option maxHeartbeats 2000000
set_option maxRecDepth 100000

/-- The first of the greatest. -/
def pickC (b : Option Ct) (c : Ct) : Option Ct :=
  match b with
  | none => some c
  | some x => if bal.lessB x.2.r x.2.n c.2.r c.2.n then some c else some x
def zeroC : Ct := (0, ⟨0, 0, 0, [], none, 0⟩)
def bestC (cs : List Ct) : Ct := (cs.foldl pickC none).getD zeroC
theorem pick_data (cs : List Ct) : ∀ b : Option Ct, (cs.foldl pickC b).map cvv = (cs.map cvv).foldl chp.pick (b.map cvv) := by
  induction cs with
  | nil => intro b; rfl
  | cons c cs ih =>
    intro b
    rw [List.foldl_cons, ih, List.map_cons, List.foldl_cons]
    congr 1
    cases b with
    | none => rfl
    | some x =>
      show (if bal.lessB x.2.r x.2.n c.2.r c.2.n then some c else some x).map cvv = if chp.lessB x.2.r x.2.n c.2.r c.2.n then some (cvv c) else some (cvv x)
      have e : bal.lessB x.2.r x.2.n c.2.r c.2.n = chp.lessB x.2.r x.2.n c.2.r c.2.n := rfl
      rw [e]
      cases chp.lessB x.2.r x.2.n c.2.r c.2.n <;> rfl
theorem pick_mem (cs : List Ct) : ∀ b x, cs.foldl pickC b = some x → b = some x ∨ x ∈ cs := by
  induction cs with
  | nil => intro b x h; exact .inl h
  | cons c cs ih =>
    intro b x h
    rcases ih _ x h with h1 | h1
    · cases b with
      | none => simp [pickC] at h1; exact .inr (by rw [h1]; exact List.mem_cons_self)
      | some y =>
        simp only [pickC] at h1
        split at h1
        · simp at h1; exact .inr (by rw [h1]; exact List.mem_cons_self)
        · exact .inl h1
    · exact .inr (List.mem_cons_of_mem _ h1)
theorem pick_some' (cs : List Ct) : ∀ b, (∃ x, b = some x) → ∃ x, cs.foldl pickC b = some x := by
  induction cs with
  | nil => intro b h; exact h
  | cons c cs ih =>
    intro b h
    obtain ⟨x, rfl⟩ := h
    refine ih _ ?_
    simp only [pickC]
    split
    · exact ⟨_, rfl⟩
    · exact ⟨_, rfl⟩
theorem best_take {cs : List Ct} (k : Nat) (hk : k < cs.length) : bestC (cs.take (k + 1)) = if k = 0 then cs[k] else if bal.lessB (bestC (cs.take k)).2.r (bestC (cs.take k)).2.n cs[k].2.r cs[k].2.n then cs[k] else bestC (cs.take k) := by
  unfold bestC
  rw [List.take_succ_eq_append_getElem hk, List.foldl_append]
  by_cases h0 : k = 0
  · subst h0; rfl
  · rw [if_neg h0]
    have hne : cs.take k ≠ [] := by
      intro e
      have := congrArg List.length e
      rw [List.length_take, List.length_nil] at this
      omega
    obtain ⟨x, hx⟩ : ∃ x, (cs.take k).foldl pickC none = some x := by
      cases h1 : cs.take k with
      | nil => exact absurd h1 hne
      | cons y t => exact pick_some' t _ ⟨y, rfl⟩
    rw [hx]
    simp only [List.foldl_cons, List.foldl_nil, pickC, Option.getD_some]
    split <;> rfl
def put5 (w : World) (b : Nat) (u v x y z : Value) : World := ((((w.setCell ⟨b, 0, none⟩ u).setCell ⟨b, 1, none⟩ v).setCell ⟨b, 2, none⟩ x).setCell ⟨b, 3, none⟩ y).setCell ⟨b, 4, none⟩ z
theorem put5_at {w : World} {b : Nat} {u v x y z u' v' x' y' z' : Value} {T : TypeId} (h : w.heap[b]? = some (.cells #[u, v, x, y, z] T (0, 0))) : (put5 w b u' v' x' y' z').heap[b]? = some (.cells #[u', v', x', y', z'] T (0, 0)) := hp_set (hp_set (hp_set (hp_set (hp_set h 0 u') 1 v') 2 x') 3 y') 4 z'
theorem put5_ne {w : World} {b k : Nat} {u v x y z : Value} (h : k ≠ b) : (put5 w b u v x y z).heap[k]? = w.heap[k]? := (hp_set_ne h).trans ((hp_set_ne h).trans ((hp_set_ne h).trans ((hp_set_ne h).trans (hp_set_ne h))))
theorem put5_size (w : World) (b : Nat) (u v x y z : Value) : (put5 w b u v x y z).heap.size = w.heap.size := by simp [put5, size_set]
theorem put5_below {B : Nat} {a w : World} (h : Below B a w) {b : Nat} (hb : B ≤ b) (u v x y z : Value) : Below B a (put5 w b u v x y z) := ((((h.setCell (p := ⟨b, 0, none⟩) hb u).setCell (p := ⟨b, 1, none⟩) hb v).setCell (p := ⟨b, 2, none⟩) hb x).setCell (p := ⟨b, 3, none⟩) hb y).setCell (p := ⟨b, 4, none⟩) hb z
def cobj (c : Ct) : Obj := .cells #[.int .i64 c.1, .int .i64 c.2.s, .int .i64 c.2.r, .int .i64 c.2.n, .slice c.2.a c.2.l.length c.2.c] 78
theorem hp_drew (w : World) (k : Nat) : w.drew.heap[k]? = w.heap[k]? := rfl
/-- The three blocks of Best: the result's, the best so far, its ballot. -/
structure B3 (B : Nat) (x : Ct) (w : World) : Prop where
  h0 : w.heap[B]? = some (.cells #[.int .i64 0, .int .i64 0, .int .i64 0, .int .i64 0, .slice none 0 0] 78 (0, 0))
  h1 : w.heap[B + 1]? = some (.cells #[.int .i64 x.1, .int .i64 x.2.s, .int .i64 x.2.r, .int .i64 x.2.n, .slice x.2.a x.2.l.length x.2.c] 78 (0, 0))
  h2 : w.heap[B + 1 + 1]? = some (.cells #[.int .i64 x.2.r, .int .i64 x.2.n] 43 (0, 0))
theorem B3.below {B : Nat} {x : Ct} {w w' : World} (h : B3 B x w) (hb : Below w.heap.size w w') : B3 B x w' := ⟨hp_step h.h0 hb, hp_step h.h1 hb, hp_step h.h2 hb⟩
theorem B3.step {B : Nat} {x : Ct} {w : World} (h : B3 B x w) (y : Ct) : B3 B y (put2 (put5 w (B + 1) (.int .i64 y.1) (.int .i64 y.2.s) (.int .i64 y.2.r) (.int .i64 y.2.n) (.slice y.2.a y.2.l.length y.2.c)) (B + 1 + 1) (.int .i64 y.2.r) (.int .i64 y.2.n)).drew := by
  obtain ⟨h0, h1, h2⟩ := h
  refine ⟨?_, ?_, ?_⟩
  · rw [hp_drew, put2_ne (by omega), put5_ne (by omega)]; exact h0
  · rw [hp_drew, put2_ne (by omega)]; exact put5_at h1
  · rw [hp_drew]; exact put2_at (by rw [put5_ne (by omega)]; exact h2)

theorem askOpen_any (x : Ct) (w : World) :
    Calls Try.prog 31 #[.agg #[.int .i64 x.1, .int .i64 x.2.s, .int .i64 x.2.r, .int .i64 x.2.n, .slice x.2.a x.2.l.length x.2.c]] w fun e w' => e = .returned (.agg #[.int .i64 x.2.r, .int .i64 x.2.n]) ∧ Below w.heap.size w w' := by
  go_enter Try.func31, Try.ntmps31
  go_wp2
  exact bodyPost_ret (v := .agg #[.int .i64 x.2.r, .int .i64 x.2.n]) (by simp [results, Try.results31, go_sem]) rfl ⟨rfl, below_new2 _ _ _⟩

theorem bestOpen_ok (w : World) (base c : Nat) (a : Option Addr) (cs : List Ct) (h : che.RowK w base 78 a c cs) (hl : cs.length ≤ 1000) :
    Calls Try.prog 30 #[.slice a cs.length c, .func (.func 31) #[] #[]] w
      fun e w' => e = .returned (.tuple #[.agg #[.int .i64 (bestC cs).1, .int .i64 (bestC cs).2.s, .int .i64 (bestC cs).2.r, .int .i64 (bestC cs).2.n, .slice (bestC cs).2.a (bestC cs).2.l.length (bestC cs).2.c], .bool (decide (0 < cs.length))]) ∧ Below w.heap.size w w' := by
  have HR := Lib.hid (fun (wx : World) (hb : Below w.heap.size w wx) (k : Nat) (hk : k < cs.length) => (h.below hb).cells hk)
  clear h
  go_enter Try.func30, Try.ntmps30
  go_wp2_with fail
  go_loopw [13] (fun i wr => ∃ k : Nat, k ≤ cs.length ∧ i = .int .i64 k ∧ Hid (B3 w.heap.size (bestC (cs.take k)) wr) ∧ Hid (Below w.heap.size w wr)) (fun i _ => cs.length - (intOf i).toNat)
  case atStart =>
    obtain ⟨n0, n1, n2, n3⟩ := new3 w (.cells #[.int .i64 0, .int .i64 0, .int .i64 0, .int .i64 0, .slice none 0 0] 78) (.cells #[.int .i64 0, .int .i64 0, .int .i64 0, .int .i64 0, .slice none 0 0] 78) (.cells #[.int .i64 0, .int .i64 0] 43)
    exact ⟨0, Nat.zero_le _, rfl, ⟨n0, n1, n2⟩, below_new3 _ _ _ _⟩
  case round =>
    obtain ⟨k, hk, rfl, HS, HB⟩ := hrel
    obtain ⟨b, hb⟩ : ∃ b, b = bestC (cs.take k) := ⟨_, rfl⟩
    rw [← hb] at HS
    by_cases hlt : k < cs.length
    · have hbt := best_take k hlt
      obtain ⟨g, rfl, hgz, hmx, x0, x1, x2, x3, x4⟩ := HR.out wr HB.out k hlt
      rw [← hb] at hbt
      obtain ⟨x, hx⟩ : ∃ x, x = cs[k] := ⟨_, rfl⟩
      rw [← hx] at x0 x1 x2 x3 x4 hbt
      obtain ⟨w5, hw5⟩ : ∃ w5, w5 = wr.alloc (.cells #[.int .i64 x.1, .int .i64 x.2.s, .int .i64 x.2.r, .int .i64 x.2.n, .slice x.2.a x.2.l.length x.2.c] 78) := ⟨_, rfl⟩
      have hn5 : w5.heap[wr.heap.size]? = some (.cells #[.int .i64 x.1, .int .i64 x.2.s, .int .i64 x.2.r, .int .i64 x.2.n, .slice x.2.a x.2.l.length x.2.c] 78 (0, 0)) := by rw [hw5]; exact hp_alloc_new _ _
      have hb5 : Below wr.heap.size wr w5 := by rw [hw5]; exact below_new1 _ _
      obtain ⟨xb, hxb⟩ : ∃ xb, xb = wr.heap.size := ⟨_, rfl⟩
      rw [← hxb] at hn5
      obtain ⟨y0, y1, y2, y3, y4, yz⟩ := blk5 hn5
      have HA := Lib.hid (askOpen_any x w5)
      have HBT := Lib.hid hbt
      have HB5 := Lib.hid (below_step HB.out hb5)
      have HS5 := Lib.hid (HS.out.below hb5)
      have HN5 := Lib.hid hn5
      have HW5 := Lib.hid hw5
      have HXB := Lib.hid hxb
      have hcl : cs.length ≤ 9223372036854775807 := by omega
      clear hbt hx hw5 hn5 hb5 hxb hb
      go_upto_region 6 with fail
      rw [← HW5.out, ← HXB.out]
      clear x0 x1 x2 x3 x4 HW5 hgz hmx
      go_wp2_with fail
      refine HA.out.mono ?_; rintro e w6 ⟨rfl, hb6⟩
      obtain ⟨w7, hw7⟩ : ∃ w7, w7 = w6.alloc (.cells #[.int .i64 x.2.r, .int .i64 x.2.n] 43) := ⟨_, rfl⟩
      have hb67 : Below w5.heap.size w5 w7 := by rw [hw7]; exact below_step hb6 (below_new1 _ _)
      have hn7 : w7.heap[w6.heap.size]? = some (.cells #[.int .i64 x.2.r, .int .i64 x.2.n] 43 (0, 0)) := by rw [hw7]; exact hp_alloc_new _ _
      obtain ⟨rb, hrb⟩ : ∃ rb, rb = w6.heap.size := ⟨_, rfl⟩
      rw [← hrb] at hn7
      have HN7 := Lib.hid hn7
      have HX7 := Lib.hid (hp_step HN5.out hb67)
      have HS7 := Lib.hid (HS5.out.below hb67)
      have HB7 := Lib.hid (below_step HB5.out hb67)
      have HW7 := Lib.hid hw7
      have HRB := Lib.hid hrb
      obtain ⟨z0, z1, fz0, fz1, zz⟩ := blk2 hn7
      obtain ⟨y0, y1, y2, y3, y4, yz⟩ := blk5 HX7.out
      obtain ⟨q0, q1, fq0, fq1, qz⟩ := blk2 HS7.out.h2
      obtain ⟨p0, p1, p2, p3, p4, pz⟩ := blk5 HS7.out.h1
      obtain ⟨fp0, fp1, fp2, fp3, fp4⟩ := blk5f HS7.out.h1
      have hlo : w.heap.size ≤ wr.heap.size := HB.out.size
      have hB1x : ¬ w.heap.size + 1 = xb := by have := (kit.blk HS.out.h1).2.2; have := HXB.out; omega
      have hB1r : ¬ w.heap.size + 1 = rb := by have := (kit.blk HS.out.h1).2.2; have := HRB.out; have := hb6.size; have := HB5.out.size; have := (kit.blk HN5.out).2.2; have := HXB.out; omega
      have hB2r : ¬ w.heap.size + 1 + 1 = rb := by have := (kit.blk HS.out.h2).2.2; have := HRB.out; have := hb6.size; have := (kit.blk HN5.out).2.2; have := HXB.out; omega
      have hB2x : ¬ w.heap.size + 1 + 1 = xb := by have := (kit.blk HS.out.h2).2.2; have := HXB.out; omega
      clear hb6 hw7 hb67 hn7 hrb
      go_upto_region 7 with fail
      rw [← HW7.out, ← HRB.out]
      clear HW7
      by_cases hk0 : k = 0
      · have t1 : ((k : Int) == 0) = true := by simp [hk0]
        rw [if_pos hk0] at HBT
        clear hk0
        have HS9 := Lib.hid (HS7.out.step x)
        have HB9 : Hid (Below w.heap.size w (put2 (put5 w7 (w.heap.size + 1) (.int .i64 x.1) (.int .i64 x.2.s) (.int .i64 x.2.r) (.int .i64 x.2.n) (.slice x.2.a x.2.l.length x.2.c)) (w.heap.size + 1 + 1) (.int .i64 x.2.r) (.int .i64 x.2.n)).drew) := (put2_below (put5_below HB7.out (by omega) _ _ _ _ _) (by omega) _ _).drew
        go_wp2_with fail
        go_region
        go_wp2_with fail
        go_roundw
        case rel => exact ⟨k + 1, by omega, by go_num, by rw [HBT.out]; exact HS9.out, HB9⟩
        case measure => simp [intOf]; omega
      · have t1 : ((k : Int) == 0) = false := by simpa using hk0
        rw [if_neg hk0] at HBT
        have HL := Lib.hid (less_any b.2.r b.2.n x.2.r x.2.n w7)
        clear hk0
        cases hlb : bal.lessB b.2.r b.2.n x.2.r x.2.n with
        | false =>
          rw [hlb, if_neg (by simp)] at HBT
          rw [hlb] at HL
          clear hlb
          go_wp2_with fail
          refine HL.out.mono ?_; rintro e w8 ⟨rfl, hb8⟩
          have HB8 := Lib.hid (below_step HB7.out hb8)
          have HS8 := Lib.hid (HS7.out.below hb8)
          clear hb8
          go_wp2_with fail
          go_roundw
          case rel => exact ⟨k + 1, by omega, by go_num, by rw [HBT.out]; exact HS8, HB8⟩
          case measure => simp [intOf]; omega
        | true =>
          rw [hlb, if_pos rfl] at HBT
          rw [hlb] at HL
          clear hlb
          go_wp2_with fail
          refine HL.out.mono ?_; rintro e w8 ⟨rfl, hb8⟩
          have HB8 := Lib.hid (below_step HB7.out hb8)
          have HS8 := Lib.hid (HS7.out.below hb8)
          obtain ⟨z0, z1, -, -, zz⟩ := blk2 (hp_step HN7.out hb8)
          obtain ⟨y0, y1, y2, y3, y4, yz⟩ := blk5 (hp_step HX7.out hb8)
          obtain ⟨q0, q1, fq0, fq1, qz⟩ := blk2 HS8.out.h2
          obtain ⟨p0, p1, p2, p3, p4, pz⟩ := blk5 HS8.out.h1
          obtain ⟨fp0, fp1, fp2, fp3, fp4⟩ := blk5f HS8.out.h1
          have HS9 := Lib.hid (HS8.out.step x)
          have HB9 : Hid (Below w.heap.size w (put2 (put5 w8 (w.heap.size + 1) (.int .i64 x.1) (.int .i64 x.2.s) (.int .i64 x.2.r) (.int .i64 x.2.n) (.slice x.2.a x.2.l.length x.2.c)) (w.heap.size + 1 + 1) (.int .i64 x.2.r) (.int .i64 x.2.n)).drew) := (put2_below (put5_below HB8.out (by omega) _ _ _ _ _) (by omega) _ _).drew
          clear hb8
          go_wp2_with fail
          go_region
          go_wp2_with fail
          go_roundw
          case rel => exact ⟨k + 1, by omega, by go_num, by rw [HBT.out]; exact HS9.out, HB9⟩
          case measure => simp [intOf]; omega
    · obtain rfl : k = cs.length := by omega
      rw [List.take_length] at hb
      obtain ⟨p0, p1, p2, p3, p4, pz⟩ := blk5 HS.out.h1
      obtain ⟨c0, c1, c2, c3, c4, cz⟩ := blk5 HS.out.h0
      obtain ⟨fc0, fc1, fc2, fc3, fc4⟩ := blk5f HS.out.h0
      have HBE := Lib.hid hb
      clear hb
      go_wp2_with fail
      rw [← HBE.out]
      exact bodyPost_ret (v := .tuple #[.agg #[.int .i64 b.1, .int .i64 b.2.s, .int .i64 b.2.r, .int .i64 b.2.n, .slice b.2.a b.2.l.length b.2.c], .bool (decide (0 < cs.length))]) (by simp [results, Try.results30, go_sem, c0, c1, c2, c3, c4]) rfl ⟨rfl, put5_below HB.out (Nat.le_refl _) _ _ _ _ _⟩

theorem askChosen_any (x : Ct) (w : World) :
    Calls Try.prog 38 #[.agg #[.int .i64 x.1, .int .i64 x.2.s, .int .i64 x.2.r, .int .i64 x.2.n, .slice x.2.a x.2.l.length x.2.c]] w fun e w' => e = .returned (.agg #[.int .i64 x.2.r, .int .i64 x.2.n]) ∧ Below w.heap.size w w' := by
  go_enter Try.func38, Try.ntmps38
  go_wp2
  exact bodyPost_ret (v := .agg #[.int .i64 x.2.r, .int .i64 x.2.n]) (by simp [results, Try.results38, go_sem]) rfl ⟨rfl, below_new2 _ _ _⟩

theorem bestChosen_ok (w : World) (base c : Nat) (a : Option Addr) (cs : List Ct) (h : che.RowK w base 78 a c cs) (hl : cs.length ≤ 1000) :
    Calls Try.prog 30 #[.slice a cs.length c, .func (.func 38) #[] #[]] w
      fun e w' => e = .returned (.tuple #[.agg #[.int .i64 (bestC cs).1, .int .i64 (bestC cs).2.s, .int .i64 (bestC cs).2.r, .int .i64 (bestC cs).2.n, .slice (bestC cs).2.a (bestC cs).2.l.length (bestC cs).2.c], .bool (decide (0 < cs.length))]) ∧ Below w.heap.size w w' := by
  have HR := Lib.hid (fun (wx : World) (hb : Below w.heap.size w wx) (k : Nat) (hk : k < cs.length) => (h.below hb).cells hk)
  clear h
  go_enter Try.func30, Try.ntmps30
  go_wp2_with fail
  go_loopw [13] (fun i wr => ∃ k : Nat, k ≤ cs.length ∧ i = .int .i64 k ∧ Hid (B3 w.heap.size (bestC (cs.take k)) wr) ∧ Hid (Below w.heap.size w wr)) (fun i _ => cs.length - (intOf i).toNat)
  case atStart =>
    obtain ⟨n0, n1, n2, n3⟩ := new3 w (.cells #[.int .i64 0, .int .i64 0, .int .i64 0, .int .i64 0, .slice none 0 0] 78) (.cells #[.int .i64 0, .int .i64 0, .int .i64 0, .int .i64 0, .slice none 0 0] 78) (.cells #[.int .i64 0, .int .i64 0] 43)
    exact ⟨0, Nat.zero_le _, rfl, ⟨n0, n1, n2⟩, below_new3 _ _ _ _⟩
  case round =>
    obtain ⟨k, hk, rfl, HS, HB⟩ := hrel
    obtain ⟨b, hb⟩ : ∃ b, b = bestC (cs.take k) := ⟨_, rfl⟩
    rw [← hb] at HS
    by_cases hlt : k < cs.length
    · have hbt := best_take k hlt
      obtain ⟨g, rfl, hgz, hmx, x0, x1, x2, x3, x4⟩ := HR.out wr HB.out k hlt
      rw [← hb] at hbt
      obtain ⟨x, hx⟩ : ∃ x, x = cs[k] := ⟨_, rfl⟩
      rw [← hx] at x0 x1 x2 x3 x4 hbt
      obtain ⟨w5, hw5⟩ : ∃ w5, w5 = wr.alloc (.cells #[.int .i64 x.1, .int .i64 x.2.s, .int .i64 x.2.r, .int .i64 x.2.n, .slice x.2.a x.2.l.length x.2.c] 78) := ⟨_, rfl⟩
      have hn5 : w5.heap[wr.heap.size]? = some (.cells #[.int .i64 x.1, .int .i64 x.2.s, .int .i64 x.2.r, .int .i64 x.2.n, .slice x.2.a x.2.l.length x.2.c] 78 (0, 0)) := by rw [hw5]; exact hp_alloc_new _ _
      have hb5 : Below wr.heap.size wr w5 := by rw [hw5]; exact below_new1 _ _
      obtain ⟨xb, hxb⟩ : ∃ xb, xb = wr.heap.size := ⟨_, rfl⟩
      rw [← hxb] at hn5
      obtain ⟨y0, y1, y2, y3, y4, yz⟩ := blk5 hn5
      have HA := Lib.hid (askChosen_any x w5)
      have HBT := Lib.hid hbt
      have HB5 := Lib.hid (below_step HB.out hb5)
      have HS5 := Lib.hid (HS.out.below hb5)
      have HN5 := Lib.hid hn5
      have HW5 := Lib.hid hw5
      have HXB := Lib.hid hxb
      have hcl : cs.length ≤ 9223372036854775807 := by omega
      clear hbt hx hw5 hn5 hb5 hxb hb
      go_upto_region 6 with fail
      rw [← HW5.out, ← HXB.out]
      clear x0 x1 x2 x3 x4 HW5 hgz hmx
      go_wp2_with fail
      refine HA.out.mono ?_; rintro e w6 ⟨rfl, hb6⟩
      obtain ⟨w7, hw7⟩ : ∃ w7, w7 = w6.alloc (.cells #[.int .i64 x.2.r, .int .i64 x.2.n] 43) := ⟨_, rfl⟩
      have hb67 : Below w5.heap.size w5 w7 := by rw [hw7]; exact below_step hb6 (below_new1 _ _)
      have hn7 : w7.heap[w6.heap.size]? = some (.cells #[.int .i64 x.2.r, .int .i64 x.2.n] 43 (0, 0)) := by rw [hw7]; exact hp_alloc_new _ _
      obtain ⟨rb, hrb⟩ : ∃ rb, rb = w6.heap.size := ⟨_, rfl⟩
      rw [← hrb] at hn7
      have HN7 := Lib.hid hn7
      have HX7 := Lib.hid (hp_step HN5.out hb67)
      have HS7 := Lib.hid (HS5.out.below hb67)
      have HB7 := Lib.hid (below_step HB5.out hb67)
      have HW7 := Lib.hid hw7
      have HRB := Lib.hid hrb
      obtain ⟨z0, z1, fz0, fz1, zz⟩ := blk2 hn7
      obtain ⟨y0, y1, y2, y3, y4, yz⟩ := blk5 HX7.out
      obtain ⟨q0, q1, fq0, fq1, qz⟩ := blk2 HS7.out.h2
      obtain ⟨p0, p1, p2, p3, p4, pz⟩ := blk5 HS7.out.h1
      obtain ⟨fp0, fp1, fp2, fp3, fp4⟩ := blk5f HS7.out.h1
      have hlo : w.heap.size ≤ wr.heap.size := HB.out.size
      have hB1x : ¬ w.heap.size + 1 = xb := by have := (kit.blk HS.out.h1).2.2; have := HXB.out; omega
      have hB1r : ¬ w.heap.size + 1 = rb := by have := (kit.blk HS.out.h1).2.2; have := HRB.out; have := hb6.size; have := HB5.out.size; have := (kit.blk HN5.out).2.2; have := HXB.out; omega
      have hB2r : ¬ w.heap.size + 1 + 1 = rb := by have := (kit.blk HS.out.h2).2.2; have := HRB.out; have := hb6.size; have := (kit.blk HN5.out).2.2; have := HXB.out; omega
      have hB2x : ¬ w.heap.size + 1 + 1 = xb := by have := (kit.blk HS.out.h2).2.2; have := HXB.out; omega
      clear hb6 hw7 hb67 hn7 hrb
      go_upto_region 7 with fail
      rw [← HW7.out, ← HRB.out]
      clear HW7
      by_cases hk0 : k = 0
      · have t1 : ((k : Int) == 0) = true := by simp [hk0]
        rw [if_pos hk0] at HBT
        clear hk0
        have HS9 := Lib.hid (HS7.out.step x)
        have HB9 : Hid (Below w.heap.size w (put2 (put5 w7 (w.heap.size + 1) (.int .i64 x.1) (.int .i64 x.2.s) (.int .i64 x.2.r) (.int .i64 x.2.n) (.slice x.2.a x.2.l.length x.2.c)) (w.heap.size + 1 + 1) (.int .i64 x.2.r) (.int .i64 x.2.n)).drew) := (put2_below (put5_below HB7.out (by omega) _ _ _ _ _) (by omega) _ _).drew
        go_wp2_with fail
        go_region
        go_wp2_with fail
        go_roundw
        case rel => exact ⟨k + 1, by omega, by go_num, by rw [HBT.out]; exact HS9.out, HB9⟩
        case measure => simp [intOf]; omega
      · have t1 : ((k : Int) == 0) = false := by simpa using hk0
        rw [if_neg hk0] at HBT
        have HL := Lib.hid (less_any b.2.r b.2.n x.2.r x.2.n w7)
        clear hk0
        cases hlb : bal.lessB b.2.r b.2.n x.2.r x.2.n with
        | false =>
          rw [hlb, if_neg (by simp)] at HBT
          rw [hlb] at HL
          clear hlb
          go_wp2_with fail
          refine HL.out.mono ?_; rintro e w8 ⟨rfl, hb8⟩
          have HB8 := Lib.hid (below_step HB7.out hb8)
          have HS8 := Lib.hid (HS7.out.below hb8)
          clear hb8
          go_wp2_with fail
          go_roundw
          case rel => exact ⟨k + 1, by omega, by go_num, by rw [HBT.out]; exact HS8, HB8⟩
          case measure => simp [intOf]; omega
        | true =>
          rw [hlb, if_pos rfl] at HBT
          rw [hlb] at HL
          clear hlb
          go_wp2_with fail
          refine HL.out.mono ?_; rintro e w8 ⟨rfl, hb8⟩
          have HB8 := Lib.hid (below_step HB7.out hb8)
          have HS8 := Lib.hid (HS7.out.below hb8)
          obtain ⟨z0, z1, -, -, zz⟩ := blk2 (hp_step HN7.out hb8)
          obtain ⟨y0, y1, y2, y3, y4, yz⟩ := blk5 (hp_step HX7.out hb8)
          obtain ⟨q0, q1, fq0, fq1, qz⟩ := blk2 HS8.out.h2
          obtain ⟨p0, p1, p2, p3, p4, pz⟩ := blk5 HS8.out.h1
          obtain ⟨fp0, fp1, fp2, fp3, fp4⟩ := blk5f HS8.out.h1
          have HS9 := Lib.hid (HS8.out.step x)
          have HB9 : Hid (Below w.heap.size w (put2 (put5 w8 (w.heap.size + 1) (.int .i64 x.1) (.int .i64 x.2.s) (.int .i64 x.2.r) (.int .i64 x.2.n) (.slice x.2.a x.2.l.length x.2.c)) (w.heap.size + 1 + 1) (.int .i64 x.2.r) (.int .i64 x.2.n)).drew) := (put2_below (put5_below HB8.out (by omega) _ _ _ _ _) (by omega) _ _).drew
          clear hb8
          go_wp2_with fail
          go_region
          go_wp2_with fail
          go_roundw
          case rel => exact ⟨k + 1, by omega, by go_num, by rw [HBT.out]; exact HS9.out, HB9⟩
          case measure => simp [intOf]; omega
    · obtain rfl : k = cs.length := by omega
      rw [List.take_length] at hb
      obtain ⟨p0, p1, p2, p3, p4, pz⟩ := blk5 HS.out.h1
      obtain ⟨c0, c1, c2, c3, c4, cz⟩ := blk5 HS.out.h0
      obtain ⟨fc0, fc1, fc2, fc3, fc4⟩ := blk5f HS.out.h0
      have HBE := Lib.hid hb
      clear hb
      go_wp2_with fail
      rw [← HBE.out]
      exact bodyPost_ret (v := .tuple #[.agg #[.int .i64 b.1, .int .i64 b.2.s, .int .i64 b.2.r, .int .i64 b.2.n, .slice b.2.a b.2.l.length b.2.c], .bool (decide (0 < cs.length))]) (by simp [results, Try.results30, go_sem, c0, c1, c2, c3, c4]) rfl ⟨rfl, put5_below HB.out (Nat.le_refl _) _ _ _ _ _⟩
end Go.Proofs.Ytodoncmielfbeaa.chbe
