/-
  Contracts of the reference's Cut.
-/
import Derived.Test.YtgpkenbefolegaaDoorCut
import Derived.Test.YtgpkenbefolegaaDoorKit2
namespace Go.Proofs.YtgpkenbefolegaaDoor.cut
open Go.ChangeShapes Go.WideShapes Go.ChangeAt Go.RowKit
open Go.Proofs.YtgpkenbefolegaaDoor.kit Go.Proofs.YtgpkenbefolegaaDoor.byt Go.Proofs.YtgpkenbefolegaaDoor.sum Go.Proofs.YtgpkenbefolegaaDoor.cut
set_option linter.unusedVariables false
set_option linter.unusedSimpArgs false
set_option maxHeartbeats 1000000
set_option maxRecDepth 100000

theorem ref_long (l : List Nat) (a : Option Addr) (cap : Nat) (w : World) (hl : 8192 < l.length) (hl2 : l.length ≤ 140737488355328) :
    Calls Tryd.prog 11 #[.slice a l.length cap] w fun e w' => e = .returned (.tuple #[.slice none 0 0, .int .i64 22]) ∧ w = w' := by
  have hn2 : (16 : Int) < ((l.length : Int) + 512 - 1) / 512 := by omega
  go_enter Tryd.func11, Tryd.ntmps11
  go_wp2_with fail
  exact bodyPost_ret (v := .tuple #[.slice none 0 0, .int .i64 22]) (by simp [results, Tryd.results11, go_sem]) rfl ⟨rfl, rfl⟩

theorem ref_some (l : List Nat) (b off cap : Nat) (w : World) (hne : 0 < l.length) (hl : l.length ≤ 8192) (hlc : l.length ≤ cap) (hcm : cap ≤ 9223372036854775807) (hby : Byt l) (hbl : b < w.heap.size) (hat : Lie w (some ⟨b, off, none⟩) (bcells l)) :
    Calls Tryd.prog 11 #[.slice (some ⟨b, off, none⟩) l.length cap] w (GivesPieces w l) := by
  obtain ⟨i0, hi, hz0, hz1, hz2⟩ := info_parts infoPiece
  obtain ⟨j0, hj, hy0, hy1, hy2⟩ := info_parts infoByte
  have hn1 : Hid (nOf l = (l.length + 511) / 512) := by simp only [Hid, nOf]; omega
  obtain ⟨n, hn⟩ : ∃ n, n = nOf l := ⟨_, rfl⟩
  have hn2 : (1 : Int) ≤ ((l.length : Int) + 512 - 1) / 512 := by omega
  have hn3 : Hid (((l.length : Int) + 512 - 1) / 512 = (n : Int)) := by simp only [Hid]; rw [hn, hn1.out]; omega
  have hn16 : n ≤ 16 := by rw [hn, hn1.out]; omega
  have hS : Hid (∀ W, Below w.heap.size w W → Calls Tryd.prog 19 #[.slice (some ⟨b, off, none⟩) l.length cap] W fun e w' => e = .returned (.int .u32 (sumL l)) ∧ W = w') :=
    fun W hb => refSum_any l _ cap W (by omega) hby (hat.below hb)
  obtain ⟨sm, hsm⟩ : ∃ s, s = sumL l := ⟨_, rfl⟩
  rw [← hsm] at hS
  have HSM := Lib.hid hsm
  have HN := Lib.hid hn
  have HAT := Lib.hid hat
  clear hsm hn hat hby
  have hmax : (if 1 < ((l.length : Int) + 512 - 1) / 512 then ((l.length : Int) + 512 - 1) / 512 else 1) = (n : Int) := by have := hn3.out; split <;> omega
  go_enter Tryd.func11, Tryd.ntmps11
  go_wp2_with fail
  go_loopw [5, 6] (fun v i wr => ∃ (k : Nat) (ps : List PieceV), k ≤ n ∧ i = .int .i64 k ∧ PiecesAt wr w.heap.size v ps ∧ ps.length = k ∧ (∀ i (h : i < ps.length), IsPart l i ps[i]) ∧ Below w.heap.size w wr) (fun v i _ => n - (intOf i).toNat)
  case atStart => exact ⟨0, [], Nat.zero_le _, rfl, ⟨World.ownsRow_nil _ _ _ _, by simp⟩, rfl, by simp, Below.refl _ _⟩
  case round =>
    obtain ⟨k, ps, hk, rfl, hps, hpl, hpart, hb⟩ := hrel
    by_cases hlt : k < n
    · have hA : 512 * k ≤ l.length := by have h1 := HN.out; have h2 := hn1.out; omega
      have hA2 : 512 * k < cap := by have h1 := HN.out; have h2 := hn1.out; omega
      have hck : ¬ cap = k * 512 := by omega
      obtain ⟨m, hm⟩ : ∃ m, m = (part l k).length := ⟨_, rfl⟩
      have hm5 : m ≤ 512 := by rw [hm]; simp [part]; omega
      obtain ⟨q, hq⟩ : ∃ q, q = k * 512 + m := ⟨_, rfl⟩
      have hql : q ≤ l.length := by rw [hq, hm]; simp [part]; omega
      have hql1 : k * 512 ≤ q := by omega
      have hqm : q - k * 512 = m := by omega
      have e1 : ¬ ((k : Int) + 1) * 512 < (l.length : Int) → (l.length : Int) = q := by intro h; rw [hq, hm]; simp [part]; omega
      have e2 : ((k : Int) + 1) * 512 < (l.length : Int) → ((k : Int) + 1) * 512 = q := by intro h; rw [hq, hm]; simp [part]; omega
      have HPL : Hid (Lie wr (some ⟨b, off + k * 512, none⟩) (bcells (part l k))) := part_lie HAT.out hb hbl (by omega)
      have HPS := Lib.hid hps
      have HPT := Lib.hid hpart
      have E1 := Lib.hid e1
      have E2 := Lib.hid e2
      have HM := Lib.hid hm
      have HQ := Lib.hid hq
      clear hps hpart e1 e2 hm hq
      by_cases hle : ((k : Int) + 1) * 512 < (l.length : Int)
      all_goals
        have hle' := hle
        go_wp2_with fail
        first | rw [E1.out hle'] | rw [E2.out hle']
        have hO := HPS.out.1
        rw [hpl] at hO
        have hbs := hb.size
        have z1 : (0 : Int) ≤ (k : Int) * 512 := by omega
        have z2 : (k : Int) * 512 ≤ (q : Int) := by omega
        have z3 : (q : Int) ≤ (cap : Int) := by omega
        have z4 : (0 : Int) ≤ (q : Int) := by omega
        have z5 : q ≤ cap := by omega
        have hkn : ((k : Int) * 512).toNat = k * 512 := by omega
        have hw1 : IntKind.i64.wrap ((k : Int) * 512) = (k : Int) * 512 := IntWalk.i64_in _ (by omega)
        have hW1 : Below wr.heap.size wr wr.drew := below_drewN (Below.refl _ _) 1
        have hG0 : ∀ (B : Nat) (W0 W W' : World), B ≤ W.heap.size → Below B W0 W → W.grownBy W' (.slice none 0 0 : Value).ownBlock → Below B W0 W' := by
          intro B W0 W W' h0 h hg
          exact h.grown hg h0 (fun j hj => by simp [Value.ownBlock] at hj)
        have hG1 : ∀ (W W' : World), Below w.heap.size w W → W.ownsRow w.heap.size 33 4 u5 k (pcellsL ps) → W.grownBy W' u5.ownBlock → Below w.heap.size w W' := by
          intro W W' h hr hg
          exact h.grown hg h.size (fun j hj => (hr.lt j hj).1)
        have hAl : ∀ (W : World) (o : Obj), Below w.heap.size w W → Below w.heap.size w (W.alloc o) := fun W o h => h.alloc h.size o
        have hO2 : Hid (∀ W o, Below wr.heap.size wr W → (W.alloc o).ownsRow w.heap.size 33 4 u5 k (pcellsL ps)) := fun W o h => (own_below hO h).alloc _
        go_region_held3 (fun w' => Below w.heap.size w w') (first | (exact below_drewN hb 1) | assumption | (refine hAl _ _ ?_; assumption)) (first | (go_at_call 19; refine (hS.out _ (by assumption)).mono ?_; rintro e wn ⟨rfl, rfl⟩) | (refine step_append rfl (.const (.slice none 0 0)) (.tmp 36) 22 rfl w.heap.size 5 j0 _ 1 1 Tryd.underlying22 hj hy0 hy1 hy2 rfl (by decide) (.slice none 0 0) 0 [] rfl (World.ownsRow_nil _ _ _ _) (some ⟨b, off + k * 512, none⟩) m (cap - k * 512) (bcells (part l k)) (by simp [Act.eval, Act.put, hqm]) (by simp) (by rw [bcells_len, ← HM.out]; simp) (HPL.out.below hW1) (bcells_one _) (by unfold maxLen; omega) (by omega) (Below.size (by assumption)) ?_; intro vd wd hownd hgrd; have hBd := hG0 _ _ _ _ (Below.size (by assumption)) (by assumption) hgrd; have hBd2 := hG0 _ _ _ _ hW1.size hW1 hgrd; simp only [Nat.zero_add, List.nil_append] at hownd; obtain ⟨pa, pc, rfl, -⟩ := own_shape hownd) | (refine step_append rfl (.tmp 27) (.tmp 39) 24 rfl w.heap.size 33 i0 _ 4 48 Tryd.underlying24 hi hz0 hz1 hz2 rfl (by decide) u5 k (pcellsL ps) (by simp [Act.eval, Act.put]) (hO2.out _ _ hBd2) (some ⟨wd.heap.size, 0, none⟩) 1 1 [.int .i64 k, .int .i64 n, .int .u32 sm, .slice pa m pc] (by simp [Act.eval, Act.put]) (by simp) rfl (lie_new4 _ _ _ _ _ _) (by intro u hu; simp only [List.mem_cons, List.not_mem_nil, or_false] at hu; rcases hu with rfl | rfl | rfl | rfl <;> rfl) (by unfold maxLen; omega) (by omega) (Below.size (by assumption)) ?_; intro v' w' hown' hgr; have hBn := hG1 _ _ (by assumption) (hO2.out _ _ hBd2) hgr))
        try rw [← E1.out hle']
        go_wp2_with fail
        go_roundw
        case rel =>
          have hP := HPS.out
          have hO3 := hO2.out wd (Obj.cells #[.int .i64 k, .int .i64 n, .int .u32 sm, .slice pa m pc] 33) hBd2
          have hmm := HM.out
          subst hmm
          have hd : ∀ q ∈ ps, DataAt (wd.alloc (.cells #[.int .i64 k, .int .i64 n, .int .u32 sm, .slice pa (part l k).length pc] 33)) w.heap.size q := fun q hq => (own_below (hP.2 q hq) hBd2).alloc _
          have hnew : DataAt (wd.alloc (.cells #[.int .i64 k, .int .i64 n, .int .u32 sm, .slice pa (part l k).length pc] 33)) w.heap.size ⟨k, n, sm, pa, pc, part l k⟩ := hownd.alloc _
          have hmore := PiecesAt.more hO3 hpl hd hnew hown' hgr
          have hPn : ∀ (i : Nat) (h : i < (ps ++ [(⟨k, n, sm, pa, pc, part l k⟩ : PieceV)]).length), IsPart l i (ps ++ [(⟨k, n, sm, pa, pc, part l k⟩ : PieceV)])[i] := by
            intro i hi
            by_cases hil : i < ps.length
            · rw [List.getElem_append_left hil]; exact HPT.out i hil
            · obtain rfl : i = k := by simp at hi; omega
              rw [List.getElem_append_right (by omega)]
              simp only [hpl, Nat.sub_self, List.getElem_cons_zero]
              exact ⟨rfl, by rw [HN.out], HSM.out, rfl⟩
          exact ⟨k + 1, ps ++ [⟨k, n, sm, pa, pc, part l k⟩], hlt, by go_num, hmore, by simp [hpl], hPn, hBn⟩
        case measure => simp [intOf]; omega
    · obtain rfl : n = k := by omega
      go_wp2_with fail
      exact bodyPost_ret (v := .tuple #[u5, .int .i64 0]) (by simp [results, Tryd.results11, go_sem]) rfl ⟨u5, ps, rfl, hps, by rw [hpl, HN.out], hpart, hb⟩

theorem ref_empty (a : Option Addr) (cap : Nat) (w : World) (hcm : cap ≤ 9223372036854775807) (hn : a = none → cap = 0) :
    Calls Tryd.prog 11 #[.slice a 0 cap] w (GivesPieces w []) := by
  obtain ⟨i0, hi, hz0, hz1, hz2⟩ := info_parts infoPiece
  obtain ⟨j0, hj, hy0, hy1, hy2⟩ := info_parts infoByte
  have hS : Hid (∀ W, Below w.heap.size w W → Calls Tryd.prog 19 #[.slice a 0 cap] W fun e w' => e = .returned (.int .u32 (sumL [])) ∧ W = w') :=
    fun W hb => refSum_any [] _ cap W (by simp) (by intro x hx; simp at hx) (.inl rfl)
  obtain ⟨sm, hsm⟩ : ∃ s, s = sumL [] := ⟨_, rfl⟩
  rw [← hsm] at hS
  have HSM := Lib.hid hsm
  have hw0 : IntKind.i64.wrap 0 = 0 := IntWalk.i64_in _ (by omega)
  clear hsm
  go_enter Tryd.func11, Tryd.ntmps11
  go_wp2_with fail
  refine wp_loop_rounds 2 ?_
  rw [rounds_succ]
  cases a with
  | none =>
    obtain rfl := hn rfl
    go_wp2_with fail
    have hk1 : ∀ (W : World), Below w.heap.size w W → (W.alloc (.cells #[] 5)).heap.size = W.heap.size + 1 := fun W _ => size_new _ _
    have hG0 : ∀ (B : Nat) (W0 W W' : World), B ≤ W.heap.size → Below B W0 W → W.grownBy W' (.slice none 0 0 : Value).ownBlock → Below B W0 W' := by
      intro B W0 W W' h0 h hg
      exact h.grown hg h0 (fun j hj => by simp [Value.ownBlock] at hj)
    have hAl : ∀ (W : World) (o : Obj), Below w.heap.size w W → Below w.heap.size w (W.alloc o) := fun W o h => h.alloc h.size o
    go_region_held3 (fun w' => Below w.heap.size w w') (first | (exact below_drewN (Below.refl _ _) 1) | assumption | (refine hAl _ _ ?_; assumption)) (first | (go_at_call 19; refine (hS.out _ (by assumption)).mono ?_; rintro e wn ⟨rfl, rfl⟩) | (refine step_append rfl (.const (.slice none 0 0)) (.tmp 36) 22 rfl w.heap.size 5 j0 _ 1 1 Tryd.underlying22 hj hy0 hy1 hy2 rfl (by decide) (.slice none 0 0) 0 [] rfl (World.ownsRow_nil _ _ _ _) none 0 0 [] (by simp [Act.eval, Act.put]) (by simp) rfl (.inl rfl) (by simp) (by unfold maxLen; omega) (by omega) (Below.size (by assumption)) ?_; intro vd wd hownd hgrd; have hBd := hG0 _ _ _ _ (Below.size (by assumption)) (by assumption) hgrd; simp only [Nat.zero_add, List.nil_append] at hownd; obtain ⟨pa, pc, rfl, -⟩ := own_shape hownd) | (refine step_append rfl (.tmp 27) (.tmp 39) 24 rfl w.heap.size 33 i0 _ 4 48 Tryd.underlying24 hi hz0 hz1 hz2 rfl (by decide) (.slice none 0 0) 0 (pcellsL []) (by simp [Act.eval, Act.put]) (World.ownsRow_nil _ _ _ _) (some ⟨wd.heap.size, 0, none⟩) 1 1 [.int .i64 0, .int .i64 1, .int .u32 sm, .slice pa 0 pc] (by simp [Act.eval, Act.put]) (by simp) rfl (lie_new4 _ _ _ _ _ _) (by intro u hu; simp only [List.mem_cons, List.not_mem_nil, or_false] at hu; rcases hu with rfl | rfl | rfl | rfl <;> rfl) (by unfold maxLen; omega) (by omega) (Below.size (by assumption)) ?_; intro v' w' hown' hgr; have hBn := hG0 _ _ _ _ (Below.size (by assumption)) (by assumption) hgr))
    have hmore := PiecesAt.more (ps := []) (p := ⟨0, 1, sm, pa, pc, []⟩) (World.ownsRow_nil _ _ _ _) rfl (by simp) (hownd.alloc _) hown' hgr
    have HM := Lib.hid hmore
    clear hmore hown' hgr
    go_wp2_with fail
    all_goals
      rw [rounds_succ]
      go_wp2_with fail
      exact bodyPost_ret (v := .tuple #[v', .int .i64 0]) (by simp [results, Tryd.results11, go_sem]) rfl ⟨v', _, rfl, HM.out, by simp [nOf], by
        intro i hi
        obtain rfl : i = 0 := by simp at hi; omega
        exact ⟨rfl, by simp [nOf], HSM.out, by simp [cut.part]⟩, hBn⟩
  | some ad =>
    have had : ad.add 0 = ad := by simp [Addr.add]
    by_cases hcz : cap = 0
    · subst hcz
      go_wp2_with fail
      have hk1 : ∀ (W : World), Below w.heap.size w W → (W.alloc (.cells #[] 5)).heap.size = W.heap.size + 1 := fun W _ => size_new _ _
      have hG0 : ∀ (B : Nat) (W0 W W' : World), B ≤ W.heap.size → Below B W0 W → W.grownBy W' (.slice none 0 0 : Value).ownBlock → Below B W0 W' := by
        intro B W0 W W' h0 h hg
        exact h.grown hg h0 (fun j hj => by simp [Value.ownBlock] at hj)
      have hAl : ∀ (W : World) (o : Obj), Below w.heap.size w W → Below w.heap.size w (W.alloc o) := fun W o h => h.alloc h.size o
      go_region_held3 (fun w' => Below w.heap.size w w') (first | (exact below_drewN (Below.refl _ _) 1) | assumption | (refine hAl _ _ ?_; assumption)) (first | (go_at_call 19; refine (hS.out _ (by assumption)).mono ?_; rintro e wn ⟨rfl, rfl⟩) | (refine step_append rfl (.const (.slice none 0 0)) (.tmp 36) 22 rfl w.heap.size 5 j0 _ 1 1 Tryd.underlying22 hj hy0 hy1 hy2 rfl (by decide) (.slice none 0 0) 0 [] rfl (World.ownsRow_nil _ _ _ _) (some ad) 0 0 [] (by simp [Act.eval, Act.put]) (by simp) rfl (.inl rfl) (by simp) (by unfold maxLen; omega) (by omega) (Below.size (by assumption)) ?_; intro vd wd hownd hgrd; have hBd := hG0 _ _ _ _ (Below.size (by assumption)) (by assumption) hgrd; simp only [Nat.zero_add, List.nil_append] at hownd; obtain ⟨pa, pc, rfl, -⟩ := own_shape hownd) | (refine step_append rfl (.tmp 27) (.tmp 39) 24 rfl w.heap.size 33 i0 _ 4 48 Tryd.underlying24 hi hz0 hz1 hz2 rfl (by decide) (.slice none 0 0) 0 (pcellsL []) (by simp [Act.eval, Act.put]) (World.ownsRow_nil _ _ _ _) (some ⟨wd.heap.size, 0, none⟩) 1 1 [.int .i64 0, .int .i64 1, .int .u32 sm, .slice pa 0 pc] (by simp [Act.eval, Act.put]) (by simp) rfl (lie_new4 _ _ _ _ _ _) (by intro u hu; simp only [List.mem_cons, List.not_mem_nil, or_false] at hu; rcases hu with rfl | rfl | rfl | rfl <;> rfl) (by unfold maxLen; omega) (by omega) (Below.size (by assumption)) ?_; intro v' w' hown' hgr; have hBn := hG0 _ _ _ _ (Below.size (by assumption)) (by assumption) hgr))
      have hmore := PiecesAt.more (ps := []) (p := ⟨0, 1, sm, pa, pc, []⟩) (World.ownsRow_nil _ _ _ _) rfl (by simp) (hownd.alloc _) hown' hgr
      have HM := Lib.hid hmore
      clear hmore hown' hgr
      go_wp2_with fail
      all_goals
        rw [rounds_succ]
        go_wp2_with fail
        exact bodyPost_ret (v := .tuple #[v', .int .i64 0]) (by simp [results, Tryd.results11, go_sem]) rfl ⟨v', _, rfl, HM.out, by simp [nOf], by
          intro i hi
          obtain rfl : i = 0 := by simp at hi; omega
          exact ⟨rfl, by simp [nOf], HSM.out, by simp [cut.part]⟩, hBn⟩
    · skip
      go_wp2_with fail
      have hk1 : ∀ (W : World), Below w.heap.size w W → (W.alloc (.cells #[] 5)).heap.size = W.heap.size + 1 := fun W _ => size_new _ _
      have hG0 : ∀ (B : Nat) (W0 W W' : World), B ≤ W.heap.size → Below B W0 W → W.grownBy W' (.slice none 0 0 : Value).ownBlock → Below B W0 W' := by
        intro B W0 W W' h0 h hg
        exact h.grown hg h0 (fun j hj => by simp [Value.ownBlock] at hj)
      have hAl : ∀ (W : World) (o : Obj), Below w.heap.size w W → Below w.heap.size w (W.alloc o) := fun W o h => h.alloc h.size o
      go_region_held3 (fun w' => Below w.heap.size w w') (first | (exact below_drewN (Below.refl _ _) 1) | assumption | (refine hAl _ _ ?_; assumption)) (first | (go_at_call 19; refine (hS.out _ (by assumption)).mono ?_; rintro e wn ⟨rfl, rfl⟩) | (refine step_append rfl (.const (.slice none 0 0)) (.tmp 36) 22 rfl w.heap.size 5 j0 _ 1 1 Tryd.underlying22 hj hy0 hy1 hy2 rfl (by decide) (.slice none 0 0) 0 [] rfl (World.ownsRow_nil _ _ _ _) (some ad) 0 cap [] (by simp [Act.eval, Act.put]) (by simp) rfl (.inl rfl) (by simp) (by unfold maxLen; omega) (by omega) (Below.size (by assumption)) ?_; intro vd wd hownd hgrd; have hBd := hG0 _ _ _ _ (Below.size (by assumption)) (by assumption) hgrd; simp only [Nat.zero_add, List.nil_append] at hownd; obtain ⟨pa, pc, rfl, -⟩ := own_shape hownd) | (refine step_append rfl (.tmp 27) (.tmp 39) 24 rfl w.heap.size 33 i0 _ 4 48 Tryd.underlying24 hi hz0 hz1 hz2 rfl (by decide) (.slice none 0 0) 0 (pcellsL []) (by simp [Act.eval, Act.put]) (World.ownsRow_nil _ _ _ _) (some ⟨wd.heap.size, 0, none⟩) 1 1 [.int .i64 0, .int .i64 1, .int .u32 sm, .slice pa 0 pc] (by simp [Act.eval, Act.put]) (by simp) rfl (lie_new4 _ _ _ _ _ _) (by intro u hu; simp only [List.mem_cons, List.not_mem_nil, or_false] at hu; rcases hu with rfl | rfl | rfl | rfl <;> rfl) (by unfold maxLen; omega) (by omega) (Below.size (by assumption)) ?_; intro v' w' hown' hgr; have hBn := hG0 _ _ _ _ (Below.size (by assumption)) (by assumption) hgr))
      have hmore := PiecesAt.more (ps := []) (p := ⟨0, 1, sm, pa, pc, []⟩) (World.ownsRow_nil _ _ _ _) rfl (by simp) (hownd.alloc _) hown' hgr
      have HM := Lib.hid hmore
      clear hmore hown' hgr
      go_wp2_with fail
      all_goals
        rw [rounds_succ]
        go_wp2_with fail
        exact bodyPost_ret (v := .tuple #[v', .int .i64 0]) (by simp [results, Tryd.results11, go_sem]) rfl ⟨v', _, rfl, HM.out, by simp [nOf], by
          intro i hi
          obtain rfl : i = 0 := by simp at hi; omega
          exact ⟨rfl, by simp [nOf], HSM.out, by simp [cut.part]⟩, hBn⟩

theorem ref_any (l : List Nat) (a : Option Addr) (cap : Nat) (w : World) (hl : l.length ≤ 8192) (hlc : l.length ≤ cap) (hcm : cap ≤ 9223372036854775807) (hn : a = none → l.length = 0 ∧ cap = 0) (hby : Byt l) (hat : Lie w a (bcells l)) :
    Calls Tryd.prog 11 #[.slice a l.length cap] w (GivesPieces w l) := by
  by_cases h0 : l = []
  · subst h0
    exact ref_empty a cap w hcm (fun e => (hn e).2)
  · have hp := List.length_pos_iff.2 h0
    rcases hat with h | ⟨b, off, rfl, hb, hc⟩
    · exact absurd (by simpa [bcells] using h) h0
    · exact ref_some l b off cap w hp hl hlc hcm hby hb (.inr ⟨b, off, rfl, hb, hc⟩)
end Go.Proofs.YtgpkenbefolegaaDoor.cut
