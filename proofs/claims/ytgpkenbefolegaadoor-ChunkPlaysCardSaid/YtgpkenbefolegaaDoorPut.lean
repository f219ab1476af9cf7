/-
  Contract of (*Box).Put.
-/
import Derived.Test.YtgpkenbefolegaaDoorBox
import Derived.Test.YtgpkenbefolegaaDoorEqual
namespace Go.Proofs.YtgpkenbefolegaaDoor.box
open Go.ChangeShapes Go.WideShapes Go.ChangeAt Go.RowKit
open Go.Maps
open Go.Proofs.YtgpkenbefolegaaDoor.kit Go.Proofs.YtgpkenbefolegaaDoor.mapkit Go.Proofs.YtgpkenbefolegaaDoor.byt Go.Proofs.YtgpkenbefolegaaDoor.sum Go.Proofs.YtgpkenbefolegaaDoor.cut
set_option linter.unusedVariables false
set_option linter.unusedSimpArgs false
set_option maxHeartbeats 1000000
set_option maxRecDepth 100000

/-- What a Put leaves. -/
def PutsIn (base b m : Nat) (V : BoxV) (p : PieceV) (w : World) (e : Ending) (w' : World) : Prop :=
  e = .returned (.int .i64 (putV V p).2) ∧ BoxAt w' base b m (putV V p).1 ∧ Keep (fun k => k = b ∨ k = m) w w'

theorem puts_same {base b m : Nat} {V : BoxV} {p : PieceV} {w w' : World} {c : Int} (h : BoxAt w base b m V) (hp : putV V p = (V, c)) (hb : Below w.heap.size w w') : PutsIn base b m V p w (.returned (.int .i64 c)) w' := by
  unfold PutsIn
  rw [hp]
  exact ⟨rfl, h.below hb, Keep.of_below hb⟩

theorem put_may (p : PieceV) (w : World) (base b m : Nat) (V : BoxV) (h : BoxAt w base b m V) (hm : mayP p = false) (hl : p.data.length ≤ 9223372036854775807) (ht : p.tot ≤ 9223372036854775807) :
    Calls Tryd.prog 17 #[.pointer (some ⟨b, 0, none⟩), pval p] w (PutsIn base b m V p w) := by
  have hpv : putV V p = (V, 21) := by simp [putV, hm]
  have hC : Calls Tryd.prog 31 #[pval p] (w.alloc (.cells (pcells p).toArray 33)) _ := may_ok p _ hl ht
  rw [hm] at hC
  have H := Lib.hid h
  clear h hm
  obtain ⟨px, pt, ps, pa, pc, pd⟩ := p
  obtain ⟨n, hn⟩ : ∃ n, n = pd.length := ⟨_, rfl⟩
  simp only [pval, pcells, ← hn] at *
  clear hn hl ht
  have hF : ∀ w' v, Below w.heap.size w w' → v = Ending.returned (.int .i64 21) → PutsIn base b m V ⟨px, pt, ps, pa, pc, pd⟩ w v w' := by
    rintro w' v hb rfl
    exact puts_same H.out hpv hb
  have HF := Lib.hid hF
  clear hF hpv
  go_enter Tryd.func17, Tryd.ntmps17
  go_wp2_with fail
  refine hC.mono ?_; rintro e w1 ⟨rfl, hb1⟩
  go_wp2_with fail
  go_ret
  exact HF.out _ _ ((below_new1 _ _).trans (Below.mono hb1 (by rw [size_new]; omega))) rfl

theorem neq_whole (a c : Int) (b d : Nat) (w : World) :
    (binOp .neq 57 (.agg #[.int .i64 a, .int .u32 b]) (.agg #[.int .i64 c, .int .u32 d])).run Tryd.prog w = .ok (.bool (decide (a ≠ c ∨ b ≠ d))) w := by
  by_cases h1 : a = c <;> by_cases h2 : b = d
  · subst h1 h2; go_simp
  · subst h1
    have : ¬ (b : Int) = d := by omega
    go_simp
  · subst h2; go_simp
  · have : ¬ (b : Int) = d := by omega
    go_simp

theorem keep_grown {w w' : World} {m : Nat} (h : w.grownBy w' (some m)) : Keep (· = m) w w' :=
  ⟨h.os, h.tape, h.output, h.size, fun k hk hn => h.block k hk (fun e => hn (Option.some.inj e))⟩
theorem wp_named {P : Program} {c : Code} {Q : Exit → Act → World → Prop} {a : Act} {w : World} (h : ∀ w', w' = w → Code.wp P c Q a w') : Code.wp P c Q a w := h w rfl

theorem lie_keep {S : Nat → Prop} {w w' : World} {a : Option Addr} {l : List Nat} (h : Lie w a (bcells l)) (hk : Keep S w w') (hS : ∀ k, S k → ∀ o x, w.cell? ⟨k, o, none⟩ ≠ some (.int .u8 x)) : Lie w' a (bcells l) := by
  rcases h with h | ⟨b, off, rfl, h1, h2⟩
  · exact .inl h
  · by_cases h0 : l = []
    · subst h0; exact .inl rfl
    · have hnb : ¬ S b := by
        intro hs
        have hl : 0 < l.length := List.length_pos_iff.2 h0
        have := h2 0 (by simpa [bcells] using hl)
        rw [bcells_get hl] at this
        exact hS b hs _ _ this
      exact .inr ⟨b, off, rfl, Nat.lt_of_lt_of_le h1 hk.size, fun i hi => by rw [hk.cell (p := ⟨b, off + i, none⟩) h1 hnb]; exact h2 i hi⟩
theorem BoxAt.notU8 {w : World} {base b m : Nat} {V : BoxV} (h : BoxAt w base b m V) : ∀ k, (k = b ∨ k = m) → ∀ o x, w.cell? ⟨k, o, none⟩ ≠ some (.int .u8 x) := by
  intro k hk o x hc
  obtain ⟨f, hm, _⟩ := h.map
  obtain ⟨es, clock, he⟩ := hm.obj
  rcases hk with rfl | rfl
  · rw [(kit.blk h.blk).1] at hc
    match o, hc with
    | 0, hc => simp at hc
    | 1, hc => simp at hc
    | 2, hc => simp at hc
    | n + 3, hc => simp at hc
  · simp [World.cell?, he] at hc

theorem keep_set2 {w1 w : World} {b : Nat} (h : Keep (· = b) w1 w) (o1 o2 : Nat) (v1 v2 : Value) : Keep (· = b) w1 ((w.setCell ⟨b, o1, none⟩ v1).setCell ⟨b, o2, none⟩ v2) :=
  (h.setCell (p := ⟨b, o1, none⟩) (.inr rfl) v1).setCell (p := ⟨b, o2, none⟩) (.inr rfl) v2

theorem put_is {V : BoxV} {p : PieceV} (h1 : mayP p = true) (h2 : ¬ (0 < V.cnt ∧ (V.tot ≠ p.tot ∨ V.sum ≠ p.sum))) (h3 : V.get p.pos.toNat = none ∨ V.get p.pos.toNat = some p.data) :
    putV V p = (⟨p.tot, p.sum, updG V.get p.pos.toNat p.data⟩, 0) := by
  rw [putV, if_neg (by rw [h1]; simp), if_neg h2]
  rcases h3 with h3 | h3 <;> rw [h3] <;> simp

theorem put_fin {w1 w3 wn w' : World} {base b m i : Nat} {V : BoxV} {p : PieceV} {f : Lit → Option Value} {v : Value} {n : Nat} (hB : BoxAt w1 base b m V) (hp : putV V p = (⟨p.tot, p.sum, updG V.get p.pos.toNat p.data⟩, 0)) (hi : p.pos.toNat = i) (hi16 : i < 16)
    (hs : p.sum < 4294967296) (hby : Byt p.data) (hn : n = p.data.length)
    (k3 : Keep (· = b) w1 w3) (hblk : w3.heap[b]? = some (.cells #[.int .i64 p.tot, .int .u32 p.sum, .map (some m)] 59 (0, 0))) (hbn : Below w3.heap.size w3 wn)
    (hv : wn.ownsRow base 5 1 v n (bcells p.data)) (hf : MapAt w1 Tryd.prog 3 m f V.cnt) (hh : Held w1 base f V.get)
    (hm' : MapAt w' Tryd.prog 3 m (upd f (key i) v) (if (f (key i)).isSome then V.cnt else V.cnt + 1)) (hgr : wn.grownBy w' (some m)) :
    BoxAt w' base b m (putV V p).1 ∧ Keep (fun k => k = b ∨ k = m) w1 w' := by
  have hne := hB.lt.2.2
  have kA : Keep (fun k => k = b ∨ k = m) w1 w3 := ⟨k3.os, k3.tape, k3.output, k3.size, fun k hk hn => k3.block k hk (fun e => hn (.inl e))⟩
  have kB : Keep (fun k => k = b ∨ k = m) w3 wn := Keep.of_below hbn
  have kC : Keep (fun k => k = b ∨ k = m) wn w' := ⟨hgr.os, hgr.tape, hgr.output, hgr.size, fun k hk hn => hgr.block k hk (fun e => hn (.inr (Option.some.inj e)))⟩
  have kk := (kA.trans kB).trans kC
  refine ⟨?_, kk⟩
  have hmap : ∃ es clock, wn.heap[m]? = some (.map es clock) := by
    obtain ⟨es, clock, he⟩ := hf.obj
    exact ⟨es, clock, hp_step (k3.hp he (fun e => hne e.symm)) hbn⟩
  obtain ⟨es, clock, he⟩ := hmap
  have hwf := put_wf hB.wf hs hby (V := V) (p := p)
  have hcnt := (put_cnt (V := V) (p := p) (by rw [hp])).2
  have hsome : (f (key i)).isSome = (V.get p.pos.toNat).isSome := by
    have := hh i hi16
    rw [hi]
    cases hg : V.get i with
    | none => rw [hg] at this; simp only at this; rw [this]; rfl
    | some d => rw [hg] at this; obtain ⟨a, c, h1, h2⟩ := this; rw [h1]; rfl
  rw [hsome, ← hcnt] at hm'
  rw [hp] at hm' hwf ⊢
  change BoxAt w' base b m ⟨p.tot, p.sum, updG V.get p.pos.toNat p.data⟩
  refine ⟨hB.lob, hB.lom, ?_, ⟨_, hm', ?_⟩, hwf⟩
  · have h1 := hp_step hblk hbn
    exact (hgr.block b (Array.getElem?_eq_some_iff.1 h1).1 (fun e => hne (Option.some.inj e))).trans h1
  · intro j hj
    by_cases e : j = i
    · subst e
      have e1 : updG V.get p.pos.toNat p.data j = some p.data := by simp [updG, hi]
      show match updG V.get p.pos.toNat p.data j with | none => _ | some d => _
      rw [e1]
      simp only
      obtain ⟨a, c, rfl, _⟩ := own_shape hv
      refine ⟨a, c, by rw [← hn]; simp [upd, key_same.2 rfl], ?_⟩
      rw [← hn]
      refine own_keep' hv (keep_grown hgr) ?_
      rintro k cur hk rfl
      rw [he] at hk
      cases hk
    · have e1 : updG V.get p.pos.toNat p.data j = V.get j := by simp [updG, hi, e]
      have e2 : upd f (key i) v (key j) = f (key j) := by
        have : ¬ (key j).sameKey (key i) = true := fun h => e (key_same.1 h)
        simp [upd, this]
      show match updG V.get p.pos.toNat p.data j with | none => _ | some d => _
      rw [e1, e2]
      exact hh.keep kk hB.notByte j hj

set_option maxHeartbeats 4000000 in
theorem put_else (p : PieceV) (w : World) (base b m : Nat) (V : BoxV) (h : BoxAt w base b m V) (hbase : base ≤ w.heap.size) (hm : mayP p = true) (hs32 : p.sum < 4294967296) (hby : Byt p.data) (hat : Lie w p.addr (bcells p.data)) (hnil : p.addr = none → p.data.length = 0 ∧ p.cap = 0) :
    Calls Tryd.prog 17 #[.pointer (some ⟨b, 0, none⟩), pval p] w (PutsIn base b m V p w) := by
  have hmt := may_true hm
  have hmt0 := hm
  have hC : Calls Tryd.prog 31 #[pval p] (w.alloc (.cells (pcells p).toArray 33)) _ := may_ok p _ (by omega) (by omega)
  rw [hm] at hC
  obtain ⟨n, hn⟩ : ∃ n, n = p.data.length := ⟨_, rfl⟩
  have hq := hp_alloc_new w (.cells (pcells p).toArray 33)
  have hbb := hp_new (o := .cells (pcells p).toArray 33) h.blk
  have hlt := h.lt
  have H := Lib.hid h
  have HB := Lib.hid hby
  have HA := Lib.hid hat
  have HN := Lib.hid hnil
  obtain ⟨q, hqs⟩ : ∃ q, q = w.heap.size := ⟨_, rfl⟩
  have hpd : pval p = .agg #[.int .i64 p.pos, .int .i64 p.tot, .int .u32 p.sum, .slice p.addr n p.cap] := by rw [hn]; rfl
  have hpc : (pcells p).toArray = #[.int .i64 p.pos, .int .i64 p.tot, .int .u32 p.sum, .slice p.addr n p.cap] := by rw [hn]; rfl
  rw [hpd, hpc] at hC
  rw [hpc] at hq hbb
  rw [hpd]
  rw [← hqs] at hq
  have HQ := Lib.hid hq
  have HBB := Lib.hid hbb
  have HN2 := Lib.hid hn
  clear h hm hby hat hnil hq hbb hpd hpc hn
  go_enter Tryd.func17, Tryd.ntmps17
  go_wp2_with fail
  refine hC.mono ?_; rintro e w1 ⟨rfl, hb1⟩
  have hs1 := hb1.size
  rw [size_new, ← hqs] at hs1
  have hB1 : Below w.heap.size w w1 := (below_new1 _ _).trans (Below.mono hb1 (by rw [size_new]; omega))
  have hQ1 := hp_step HQ.out hb1
  have hBB1 := hp_step HBB.out hb1
  obtain ⟨q0, q1, q2, q3, hzq⟩ : w1.cell? ⟨q, 0, none⟩ = some (.int .i64 p.pos) ∧ w1.cell? ⟨q, 1, none⟩ = some (.int .i64 p.tot) ∧ w1.cell? ⟨q, 2, none⟩ = some (.int .u32 p.sum) ∧ w1.cell? ⟨q, 3, none⟩ = some (.slice p.addr n p.cap) ∧ q < w1.heap.size := by
    obtain ⟨h1, h2, h3⟩ := blk hQ1
    exact ⟨h1 0, h1 1, h1 2, h1 3, h3⟩
  obtain ⟨b0, b1, b2, f0, f1, _, hzb⟩ := blk3 hBB1
  have HM := Lib.hid (H.out.below hB1).map
  have HQ1 := Lib.hid hQ1
  have HBB1 := Lib.hid hBB1
  clear hQ1 hBB1 hC
  subst hqs
  obtain ⟨cnt, hcnt⟩ : ∃ c, c = V.cnt := ⟨_, rfl⟩
  have HC := Lib.hid hcnt
  have hlen : ∀ (o : Obj) (ty : TypeId) (k : Nat), (Builtin.len_ #[55] ty #[.map (some m)]).run Tryd.prog ((w1.alloc o).drewN k) = .ok (.int .i64 cnt) ((w1.alloc o).drewN k) := by
    intro o ty k
    obtain ⟨f, hf, _⟩ := HM.out
    rw [HC.out]
    exact (MapAt.drewN (hf.alloc o) k).run_len Tryd.underlying55 ty
  clear hcnt
  obtain ⟨i, hi, hi16⟩ : ∃ i : Nat, p.pos = (i : Int) ∧ i < 16 := ⟨p.pos.toNat, by omega, by omega⟩
  have hit : p.pos.toNat = i := by omega
  have hlook : ∃ v s, (∀ (W : World), Below w1.heap.size w1 W → (Instr.lookup 55 (.map (some m)) (.int .i64 p.pos) true).run Tryd.prog W = .ok (.tuple #[v, .bool s]) W) ∧
      (s = false ∧ V.get i = none ∨ s = true ∧ ∃ d a c, V.get i = some d ∧ v = .slice a d.length c ∧ Lie w1 a (bcells d) ∧ Byt d) := by
    obtain ⟨f, hf, hh⟩ := HM.out
    have hk := hh i hi16
    refine ⟨(f (key i)).getD (.slice none 0 0), (f (key i)).isSome, fun W hW => ?_, ?_⟩
    · rw [hi]
      exact (hf.below hW).run_look_ok keyedInt Tryd.underlying55 (zeroB _) (key_of i (by omega))
    · cases hg : V.get i with
      | none => rw [hg] at hk; simp only at hk; rw [hk]; exact .inl ⟨rfl, rfl⟩
      | some d =>
        rw [hg] at hk
        obtain ⟨a, c, hk1, hk2⟩ := hk
        rw [hk1]
        obtain ⟨ao, cap, e1, e2, e3, e4⟩ := owned_lie hk2
        simp only [Value.slice.injEq, true_and] at e1
        rw [← e1.1] at e3
        exact .inr ⟨rfl, d, a, c, rfl, rfl, e3, (H.out.wf.get i d hg).2.2⟩
  obtain ⟨old, is, hlk, hcase⟩ := hlook
  have HLK := Lib.hid hlk
  have HI := Lib.hid hi
  have HIT := Lib.hid hit
  clear hlk hi hit
  have hlk2 : ∀ (o : Obj) (j k : Nat), (Instr.lookup 55 (.map (some m)) (.int .i64 p.pos) true).run Tryd.prog (((w1.alloc o).drewN j).drewN k) = .ok (.tuple #[old, .bool is]) (((w1.alloc o).drewN j).drewN k) :=
    fun o j k => HLK.out _ (below_drewN (below_drewN (below_new1 _ _) _) _)
  have hlk1 : ∀ (o : Obj) (k : Nat), (Instr.lookup 55 (.map (some m)) (.int .i64 p.pos) true).run Tryd.prog ((w1.alloc o).drewN k) = .ok (.tuple #[old, .bool is]) ((w1.alloc o).drewN k) :=
    fun o k => HLK.out _ (below_drewN (below_new1 _ _) _)
  go_wp2_with fail
  by_cases hd : 0 < cnt ∧ (V.tot ≠ p.tot ∨ V.sum ≠ p.sum)
  · have hpv : putV V p = (V, 120) := by rw [putV, if_neg (by rw [hmt0]; simp), ← HC.out, if_pos hd]
    have hF : ∀ w' v, Below w.heap.size w w' → v = Ending.returned (.int .i64 120) → PutsIn base b m V p w v w' := by
      rintro w' v hb rfl
      exact puts_same H.out hpv hb
    have HF := Lib.hid hF
    clear hF hpv
    have h0' : (0 : Int) < (cnt : Int) := by omega
    have hne := neq_whole V.tot p.tot V.sum p.sum
    rw [decide_eq_true hd.2] at hne
    go_quiet (fail)
    go_wp2_with fail
    go_ret
    refine HF.out _ _ ?_ rfl
    exact below_drewN (hB1.alloc hB1.size _) _
  · have hgo : cnt = 0 ∨ ((0 : Int) < (cnt : Int) ∧ V.tot = p.tot ∧ V.sum = p.sum) := by
      by_cases h0 : 0 < cnt
      · refine .inr ⟨by omega, ?_, ?_⟩
        · apply Decidable.byContradiction; intro hn; exact hd ⟨h0, .inl hn⟩
        · apply Decidable.byContradiction; intro hn; exact hd ⟨h0, .inr hn⟩
      · exact .inl (by omega)
    have hne : ¬ (V.tot ≠ p.tot ∨ V.sum ≠ p.sum) → _ := fun hh => by
      have hne := neq_whole V.tot p.tot V.sum p.sum
      rw [decide_eq_false hh] at hne
      exact hne
    have HD : Hid (¬ (0 < V.cnt ∧ (V.tot ≠ p.tot ∨ V.sum ≠ p.sum))) := by have := hd; rw [HC.out] at this; exact this
    clear hd
    rcases hgo with rfl | ⟨hg1, hg2, hg3⟩
    case' inl => clear hne
    case' inr =>
      have hne := hne (by simp [hg2, hg3])
      have h0n : 0 < cnt := by omega
      clear hg2 hg3
    all_goals
      go_quiet (fail)
      go_wp2_with fail
      rcases hcase with ⟨rfl, hgi⟩ | ⟨rfl, d, a, c, hgi, rfl, hld, hbd⟩
      case' inl =>
        go_quiet (fail)
        go_wp2_with fail
        have hg3 : V.get p.pos.toNat = none ∨ V.get p.pos.toNat = some p.data := .inl (by rw [HIT.out]; exact hgi)
      case' inr =>
        go_quiet (fail)
        go_wp2_with fail
        have hEq : ∀ W : World, Below w1.heap.size w1 W → Calls Tryd.prog 32 #[.slice a d.length c, .slice p.addr n p.cap] W fun e w' => e = .returned (.bool (sameB d p.data)) ∧ W = w' := by
          intro W hW
          rw [HN2.out]
          exact equal_any d p.data _ _ _ _ W hbd HB.out (hld.below hW) ((HA.out.below hB1).below hW)
        refine (hEq _ (below_drewN (below_new1 _ _) _)).mono ?_; rintro e w2 ⟨rfl, rfl⟩
        by_cases hsd : sameB d p.data = true
        case' neg =>
          have hsd' : sameB d p.data = false := by simpa using hsd
          have hdd : ¬ d = p.data := by intro e; subst e; simp [sameB] at hsd
          rw [hsd']
          have hpv : putV V p = (V, 120) := by
            rw [putV, if_neg (by rw [hmt0]; simp), if_neg HD.out, HIT.out, hgi]
            simp [hdd]
          have hF : ∀ w' v, Below w.heap.size w w' → v = Ending.returned (.int .i64 120) → PutsIn base b m V p w v w' := by
            rintro w' v hb rfl
            exact puts_same H.out hpv hb
          have HF := Lib.hid hF
          clear hF hpv hEq
          go_wp2_with fail
          go_ret
          exact HF.out _ _ (below_drewN (hB1.alloc hB1.size _) _) rfl
        case' pos =>
          have hg3 : V.get p.pos.toNat = none ∨ V.get p.pos.toNat = some p.data := .inr (by rw [HIT.out, hgi]; simp [sameB] at hsd; rw [hsd])
          rw [hsd]
          clear hEq hld hbd
          go_wp2_with fail
    all_goals
      refine wp_named ?_
      intro w3 hw3
      have k3 : Keep (· = b) w1 w3 := by
        rw [hw3]
        exact keep_set2 (((Keep.refl _ _).alloc _).drewN _) _ _ _ _
      have hblk : w3.heap[b]? = some (.cells #[.int .i64 p.tot, .int .u32 p.sum, .map (some m)] 59 (0, 0)) := by
        rw [hw3]
        exact hp_set (hp_set (hp_new HBB1.out) 0 _) 1 _
      clear hw3
      obtain ⟨f, hf, hh⟩ := HM.out
      have hqb : w.heap.size ≠ b := by have := hlt.1; omega
      have c3b : w3.cell? ⟨b, 2, none⟩ = some (.map (some m)) := (blk3 hblk).2.2.1
      have c3q0 : w3.cell? ⟨w.heap.size, 0, none⟩ = some (.int .i64 p.pos) := by rw [(kcell k3).1 _ _ hzq hqb]; exact q0
      have c3q3 : w3.cell? ⟨w.heap.size, 3, none⟩ = some (.slice p.addr n p.cap) := by rw [(kcell k3).1 _ _ hzq hqb]; exact q3
      have hk3s := k3.size
      have hB3 : Below w.heap.size w w3 ∨ True := .inr trivial
      have hA3 : Lie w3 p.addr (bcells p.data) := lie_keep (HA.out.below hB1) k3 (fun k hk => (H.out.below hB1).notU8 k (.inl hk))
      have hCl : Hid (∀ W : World, Below w3.heap.size w3 W → Calls Tryd.prog 29 #[.slice p.addr n p.cap] W fun e w' => ∃ v, e = .returned v ∧ w'.ownsRow base 5 1 v n (bcells p.data) ∧ Below W.heap.size W w') := by
        intro W hW
        have hWs := hW.size
        rw [HN2.out]
        refine (clone_any p.data p.addr p.cap W (by omega) HN.out (hA3.below hW)).mono ?_
        rintro e w' ⟨v, rfl, h1, h2⟩
        exact ⟨v, rfl, own_mono h1 (by omega), h2⟩
      have hMp : Hid (∀ W : World, Below w3.heap.size w3 W → MapAt W Tryd.prog 3 m f V.cnt) := fun W hW => (hf.keep k3 (fun e => hlt.2.2 e.symm)).below hW
      have hcm : V.cnt < maxLen := by have := cntN_le V.get 16; simp only [BoxV.cnt, maxLen]; omega
      have hKey : Hid (keyOf Tryd.prog 3 (.int .i64 p.pos) = some (key i)) := by rw [HI.out]; exact key_of i (by omega)
      have hpv := put_is hmt0 HD.out hg3
      have hFin := fun wn v w' h1 h2 h3 h4 => put_fin (w1 := w1) (w3 := w3) (wn := wn) (w' := w') (v := v) (H.out.below hB1) hpv HIT.out hi16 hs32 HB.out HN2.out k3 hblk h1 h2 hf hh h3 h4
      have HF := Lib.hid hFin
      have HPV := Lib.hid hpv
      have HH := Lib.hid hh
      have HK3 := Lib.hid k3
      have HF3 := Lib.hid hf
      clear hFin hpv hh k3 hf hblk b0 b1 b2 f0 f1 q0 q1 q2 q3 hlen hlk1 hlk2 hA3
      go_region_with (first | (go_at_call 29; refine (hCl.out _ (below_drewN (Below.refl _ _) 1)).mono ?_; rintro e wn ⟨v, rfl, hv, hbn⟩; have hbw : Below w3.heap.size w3 wn := below_step (below_drewN (Below.refl _ _) 1) hbn; have d1 := cell_step c3b hbw; have d2 := cell_step c3q0 hbw; have d3 := cell_step c3q3 hbw; obtain ⟨w', hrun, hm', hgr⟩ := (hMp.out _ hbw).run_store keyedInt Tryd.underlying55 hcm (val := v) hKey.out (key_lit i)))
      all_goals
        go_wp2_with fail
        go_ret
        obtain ⟨r1, r2⟩ := HF.out wn v w' hbw hv hm' hgr
        exact ⟨by rw [HPV.out]; rfl, r1, (Keep.of_below hB1).trans r2⟩
end Go.Proofs.YtgpkenbefolegaaDoor.box
