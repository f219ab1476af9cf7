/-
  behind.
-/
import Derived.Test.YtcaakiaenfkeaaaGreatN09
import Derived.Deep.MidRow
import Derived.StillTailTactics
namespace Go.Proofs.YtcaakiaenfkeaaaGreat.pee
open Go.ChangeShapes Go.WideShapes Go.ChangeAt Go.RowKit
open Go.Proofs.YtcaakiaenfkeaaaGreat.kit Go.Proofs.YtcaakiaenfkeaaaGreat.mapkit Go.Proofs.YtcaakiaenfkeaaaGreat.byt Go.Proofs.YtcaakiaenfkeaaaGreat.own Go.Proofs.YtcaakiaenfkeaaaGreat.accd Go.Proofs.YtcaakiaenfkeaaaGreat.accb Go.Proofs.YtcaakiaenfkeaaaGreat.acce Go.Proofs.YtcaakiaenfkeaaaGreat.chd Go.Proofs.YtcaakiaenfkeaaaGreat.che Go.Proofs.YtcaakiaenfkeaaaGreat.ownr Go.Proofs.YtcaakiaenfkeaaaGreat.pep Go.Proofs.YtcaakiaenfkeaaaGreat.peb Go.Proofs.YtcaakiaenfkeaaaGreat.pem Go.Proofs.YtcaakiaenfkeaaaGreat.pen Go.Proofs.YtcaakiaenfkeaaaGreat.pes Go.Proofs.YtcaakiaenfkeaaaGreat.peq
set_option linter.unusedVariables false
set_option linter.unusedSimpArgs false
set_option maxHeartbeats 4000000
set_option maxRecDepth 100000

def isB (M : PM) (j : Nat) : Bool := (M.pr j).done && decide (M.index + M.en.l.length < (M.pr j).commit)
def PM.behind (M : PM) : Nat := ((List.range 6).find? (isB M)).getD 0
theorem behind_dat (M : PM) : M.dat.behind = PM.behind M := by
  unfold PD.behind PM.behind PD.commit
  have e : M.dat.index + (M.dat.entries.length : Int) = M.index + M.en.l.length := by show M.index + ((M.en.l.map le).length : Int) = _; rw [List.length_map]
  rw [e]; rfl
theorem behind_at (M : PM) (k : Nat) (hk : k < 6) (h : ∀ j, j < k → isB M j = false) (hb : isB M k = true) : PM.behind M = k := by
  unfold PM.behind
  have e : List.range 6 = List.range k ++ (k :: (List.range (5 - k)).map (fun j => k + 1 + j)) := by
    match k, hk with
    | 0, _ => rfl
    | 1, _ => rfl
    | 2, _ => rfl
    | 3, _ => rfl
    | 4, _ => rfl
    | 5, _ => rfl
  rw [e, List.find?_append, List.find?_eq_none.2 (fun j hj => by rw [h j (List.mem_range.1 hj)]; decide), List.find?_cons_of_pos hb]
  rfl
theorem behind_no (M : PM) (h : ∀ j, j < 6 → isB M j = false) : PM.behind M = 0 := by
  unfold PM.behind
  rw [List.find?_eq_none.2 (fun j hj => by rw [h j (List.mem_range.1 hj)]; decide)]
  rfl
def promC (M : PM) : List Value := [.bool (M.pr 0).done, .int .i64 (M.pr 0).fr, .int .i64 (M.pr 0).commit, (M.pr 0).vs.val, .bool (M.pr 1).done, .int .i64 (M.pr 1).fr, .int .i64 (M.pr 1).commit, (M.pr 1).vs.val,
    .bool (M.pr 2).done, .int .i64 (M.pr 2).fr, .int .i64 (M.pr 2).commit, (M.pr 2).vs.val, .bool (M.pr 3).done, .int .i64 (M.pr 3).fr, .int .i64 (M.pr 3).commit, (M.pr 3).vs.val,
    .bool (M.pr 4).done, .int .i64 (M.pr 4).fr, .int .i64 (M.pr 4).commit, (M.pr 4).vs.val, .bool (M.pr 5).done, .int .i64 (M.pr 5).fr, .int .i64 (M.pr 5).commit, (M.pr 5).vs.val]
theorem prom_range {w : World} {O : Owners} {i pb : Nat} {M : PM} (h : PeerAt w O i pb M) : w.rangeAt pb 13 (promC M) := by
  intro j v hv
  have hj : j < 24 := (List.getElem?_eq_some_iff.1 hv).1
  rw [(kit.blk h.blk).1 (13 + j), ← hv]
  have e : (pcells M)[13 + j]? = ((pcells M).toList.drop 13)[j]? := by rw [List.getElem?_drop, Array.getElem?_toList]
  rw [e]
  have e2 : (pcells M).toList.drop 13 = promC M ++ (pcells M).toList.drop 37 := rfl
  rw [e2, List.getElem?_append_left (show j < (promC M).length from hj)]
theorem prom_index (w : World) (M : PM) (k : Nat) (hk : k < 6) : (Instr.index 63 (.agg (promC M).toArray) (.int .i64 (k : Int))).run Tryz.prog w = .ok (.agg #[.bool (M.pr k).done, .int .i64 (M.pr k).fr, .int .i64 (M.pr k).commit, (M.pr k).vs.val]) w := by
  rcases (by omega : k = 0 ∨ k = 1 ∨ k = 2 ∨ k = 3 ∨ k = 4 ∨ k = 5) with rfl | rfl | rfl | rfl | rfl | rfl
  all_goals kernel_rfl
theorem behind_ok (w : World) (O : Owners) (i pb : Nat) (M : PM) (h : PeerAt w O i pb M) (h1 : 0 ≤ M.index ∧ M.index ≤ 4398046511104) (h2 : M.en.l.length ≤ 1000000000) :
    Calls Tryz.prog 47 #[.pointer (some ⟨pb, 0, none⟩)] w fun e w' => e = .returned (.int .i64 (PM.behind M : Nat)) ∧ Below w.heap.size w w' := by
  obtain ⟨CS, hCS⟩ : ∃ CS : List Value, CS = promC M := ⟨_, rfl⟩
  have hrg : w.rangeAt pb 13 CS := by rw [hCS]; exact prom_range h
  have hcl : CS.length = 24 := by rw [hCS]; rfl
  have HCS := Lib.hid hCS
  have HRG := Lib.hid hrg
  have HCL := Lib.hid (show (Tryz.prog.info? 63).map (·.size) = some CS.length by rw [hcl]; kernel_rfl)
  clear hCS hrg hcl
  have HP := Lib.hid h
  have HC := Lib.hid (fun (wx : World) (hb : Below w.heap.size w wx) => commit_ok wx O i pb M (PeerAt.below HP.out hb) h1 (by omega))
  clear h
  go_enter Tryz.func47, Tryz.ntmps47
  go_wp2_with (refine wpList_load_mid rfl 63 (.tmp 7) rfl pb 13 rfl CS _ HRG.out Tryz.underlying63 rfl HCL.out ?_)
  go_loopw [9] (fun t wr => ∃ k : Nat, k ≤ 6 ∧ t = .int .i64 k ∧ Hid (∀ j, j < k → isB M j = false) ∧ Hid (Below w.heap.size w wr)) (fun t _ => 6 - (RowKit.intOf t).toNat)
  case atStart => exact ⟨0, Nat.zero_le _, rfl, fun j hj => by omega, Below.refl _ _⟩
  case round =>
    obtain ⟨k, hk, rfl, HN, HB⟩ := hrel
    by_cases hlt : k < 6
    · have hki : (k : Int) < 6 := by omega
      obtain ⟨p, hp⟩ : ∃ p, p = M.pr k := ⟨_, rfl⟩
      have hix := prom_index wr M k hlt
      rw [← HCS.out, ← hp] at hix
      simp only [Sl.val] at hix
      have HP2 := Lib.hid hp
      obtain ⟨w2, hw2⟩ : ∃ w2, w2 = wr.alloc (.cells #[.bool p.done, .int .i64 p.fr, .int .i64 p.commit, .slice p.vs.a p.vs.l.length p.vs.c] 62) := ⟨_, rfl⟩
      have hb2 : Below wr.heap.size wr w2 := by rw [hw2]; exact below_new1 _ _
      have hn2 : w2.heap[wr.heap.size]? = some (.cells #[.bool p.done, .int .i64 p.fr, .int .i64 p.commit, .slice p.vs.a p.vs.l.length p.vs.c] 62 (0, 0)) := by rw [hw2]; exact hp_alloc_new _ _
      have HB2 := Lib.hid (below_step HB.out hb2)
      have HN2 := Lib.hid hn2
      have HW2 := Lib.hid hw2
      obtain ⟨eb, heb⟩ : ∃ eb, eb = wr.heap.size := ⟨_, rfl⟩
      have HEB := Lib.hid heb
      clear hp hb2 hn2 hw2 heb
      go_upto_region 4 with fail
      rw [← HW2.out, ← HEB.out]
      clear hix
      obtain ⟨q0, q1, q2, q3, -⟩ := blk4 HN2.out
      rw [← HEB.out] at q0 q1 q2 q3
      obtain ⟨pd, pf, pcm, pv⟩ := p
      dsimp only at q0 q1 q2 q3
      have HBD := Lib.hid (below_step HB2.out (below_drewN (Below.refl _ w2) 1))
      have HC2 := Lib.hid (HC.out w2.drew HBD.out)
      have hw9 : IntKind.i64.wrap ((k : Int) + 1) = (k : Int) + 1 := IntWalk.i64_in _ (by omega)
      cases pd with
      | false =>
        have HN3 : Hid (∀ j, j < k + 1 → isB M j = false) := fun j hj => by
          rcases (by omega : j < k ∨ j = k) with e | rfl
          · exact HN.out j e
          · unfold isB; rw [← HP2.out]; rfl
        go_wp2_with fail
        go_quiet (fail)
        go_wp2_with fail
        go_roundw
        case rel => exact ⟨k + 1, by omega, by go_num, HN3, below_step HB2.out (below_drewN (Below.refl _ w2) _)⟩
        case measure => simp [RowKit.intOf]; omega
      | true =>
        have hStab : ∀ Wx Wy : World, Below Wx.heap.size Wx Wy → (Wx.cell? ⟨eb, 0, none⟩ = some (.bool true) ∧ Wx.cell? ⟨eb, 2, none⟩ = some (.int .i64 pcm) ∧ Below w2.heap.size w2 Wx) → (Wy.cell? ⟨eb, 0, none⟩ = some (.bool true) ∧ Wy.cell? ⟨eb, 2, none⟩ = some (.int .i64 pcm) ∧ Below w2.heap.size w2 Wy) := by
          intro Wx Wy kk hs
          obtain ⟨s0, s1, s2⟩ := hs
          exact ⟨cell_step s0 kk, cell_step s1 kk, below_step s2 kk⟩
        have HST := Lib.hid hStab
        have LC : Hid (∀ Wx : World, (Wx.cell? ⟨eb, 0, none⟩ = some (.bool true) ∧ Wx.cell? ⟨eb, 2, none⟩ = some (.int .i64 pcm) ∧ Below w2.heap.size w2 Wx) → Calls Tryz.prog 12 #[.pointer (some ⟨pb, 0, none⟩)] Wx fun e w' => e = .returned (.int .i64 (M.index + M.en.l.length)) ∧ Below Wx.heap.size Wx w') := by
          intro Wx hs
          exact HC.out Wx (below_step HB2.out hs.2.2)
        clear hStab
        by_cases hc : M.index + M.en.l.length < pcm
        · have t1 : decide (M.index + (M.en.l.length : Int) < pcm) = true := decide_eq_true hc
          have HR : Hid (PM.behind M = k) := behind_at M k hlt HN.out (by unfold isB; rw [← HP2.out]; simpa using hc)
          as_aux_lemma =>
            go_wp2_with fail
            go_region_held3 (fun w' => w'.cell? ⟨eb, 0, none⟩ = some (.bool true) ∧ w'.cell? ⟨eb, 2, none⟩ = some (.int .i64 pcm) ∧ Below w2.heap.size w2 w') (first | (exact ⟨q0, q2, below_drewN (Below.refl _ _) 1⟩) | (refine HST.out _ _ hbn ?_; assumption)) (first | (go_at_call 12; refine (LC.out _ (by assumption)).mono ?_; rintro e wn ⟨rfl, hbn⟩))
            have hS4 : wn.cell? ⟨eb, 0, none⟩ = some (.bool true) ∧ wn.cell? ⟨eb, 2, none⟩ = some (.int .i64 pcm) ∧ Below w2.heap.size w2 wn := by assumption
            have HB4 := Lib.hid (below_step HB2.out hS4.2.2)
            clear hS4
            go_wp2_with fail
            go_ret
            exact ⟨by rw [HR.out]; rfl, HB4.out⟩
        · have t1 : decide (M.index + (M.en.l.length : Int) < pcm) = false := decide_eq_false hc
          have HN3 : Hid (∀ j, j < k + 1 → isB M j = false) := fun j hj => by
            rcases (by omega : j < k ∨ j = k) with e | rfl
            · exact HN.out j e
            · unfold isB; rw [← HP2.out]; simpa using hc
          as_aux_lemma =>
            go_wp2_with fail
            go_region_held3 (fun w' => w'.cell? ⟨eb, 0, none⟩ = some (.bool true) ∧ w'.cell? ⟨eb, 2, none⟩ = some (.int .i64 pcm) ∧ Below w2.heap.size w2 w') (first | (exact ⟨q0, q2, below_drewN (Below.refl _ _) 1⟩) | (refine HST.out _ _ hbn ?_; assumption)) (first | (go_at_call 12; refine (LC.out _ (by assumption)).mono ?_; rintro e wn ⟨rfl, hbn⟩))
            have hS4 : wn.cell? ⟨eb, 0, none⟩ = some (.bool true) ∧ wn.cell? ⟨eb, 2, none⟩ = some (.int .i64 pcm) ∧ Below w2.heap.size w2 wn := by assumption
            have HB4 := Lib.hid (below_step HB2.out hS4.2.2)
            clear hS4
            go_wp2_with fail
            go_roundw
            case rel => exact ⟨k + 1, by omega, by go_num, HN3, HB4.out⟩
            case measure => simp [RowKit.intOf]; omega
    · obtain rfl : k = 6 := by omega
      go_wp2_with fail
      go_ret
      exact ⟨by rw [behind_no M HN.out]; rfl, HB.out⟩

end Go.Proofs.YtcaakiaenfkeaaaGreat.pee
/-
  rest.
-/
namespace Go.Proofs.YtcaakiaenfkeaaaGreat.pert
open Go.ChangeShapes Go.WideShapes Go.ChangeAt Go.RowKit
open Go.Proofs.YtcaakiaenfkeaaaGreat.kit Go.Proofs.YtcaakiaenfkeaaaGreat.mapkit Go.Proofs.YtcaakiaenfkeaaaGreat.byt Go.Proofs.YtcaakiaenfkeaaaGreat.own Go.Proofs.YtcaakiaenfkeaaaGreat.accd Go.Proofs.YtcaakiaenfkeaaaGreat.accb Go.Proofs.YtcaakiaenfkeaaaGreat.acce Go.Proofs.YtcaakiaenfkeaaaGreat.chd Go.Proofs.YtcaakiaenfkeaaaGreat.che Go.Proofs.YtcaakiaenfkeaaaGreat.ownr Go.Proofs.YtcaakiaenfkeaaaGreat.pep Go.Proofs.YtcaakiaenfkeaaaGreat.peb Go.Proofs.YtcaakiaenfkeaaaGreat.pem Go.Proofs.YtcaakiaenfkeaaaGreat.pen Go.Proofs.YtcaakiaenfkeaaaGreat.pes Go.Proofs.YtcaakiaenfkeaaaGreat.peq
set_option linter.unusedVariables false
set_option linter.unusedSimpArgs false
set_option maxHeartbeats 4000000
set_option maxRecDepth 100000

/-- Many cells stored one behind the other. -/
def setMany (cs : Array Value) : Nat → List Value → Array Value
  | _, [] => cs
  | o, v :: r => setMany (cs.setIfInBounds o v) (o + 1) r
theorem fr_setCells {S : Tag → Prop} {w : World} {O O' : Owners} {T : TypeId} {b : Nat} (hp : w.heap.size ≤ b ∨ S (O b)) (hT : ¬ Still T) : ∀ (vs : List Value) (o : Nat) (w' : World) (cs : Array Value), Fr S w O w' O' → w'.heap[b]? = some (.cells cs T (0, 0)) → Fr S w O (w'.setCells b o vs) O' ∧ (w'.setCells b o vs).heap[b]? = some (.cells (setMany cs o vs) T (0, 0))
  | [], _, _, _, f, hb => ⟨f, hb⟩
  | v :: r, o, w', cs, f, hb => fr_setCells hp hT r (o + 1) (w'.setCell ⟨b, o, none⟩ v) (cs.setIfInBounds o v) (f.set (p := ⟨b, o, none⟩) hp hb hT v) (hp_set hb o v)
def PM.rest (M : PM) : PM := { M with o1 := 0, o2 := 0, leads := false, ob := none, td := sl0, pr := fun _ => ⟨false, 0, 0, sl0⟩ }
theorem rest_dat (M : PM) : (PM.rest M).dat = M.dat.rest := rfl
def zero24 : List Value := [.bool false, .int .i64 0, .int .i64 0, .slice none 0 0, .bool false, .int .i64 0, .int .i64 0, .slice none 0 0, .bool false, .int .i64 0, .int .i64 0, .slice none 0 0, .bool false, .int .i64 0, .int .i64 0, .slice none 0 0, .bool false, .int .i64 0, .int .i64 0, .slice none 0 0, .bool false, .int .i64 0, .int .i64 0, .slice none 0 0]
theorem todo_nil (w : World) (O : Owners) (t : Tag) : TodoAt w O t sl0 := ⟨⟨0, 0, ⟨Nat.le_refl _, fun h => absurd h (by decide), fun h => absurd h (by decide), rfl, fun j u hu => by simp [sl0] at hu, fun j hj => by simp [sl0] at hj⟩, by simp [sl0]⟩, by simp [sl0]⟩
theorem rest_cells (M : PM) : setMany (((((((pcells M).setIfInBounds 10 (.int .i64 0)).setIfInBounds 11 (.int .i64 0)).setIfInBounds 12 (.bool false)).setIfInBounds 37 (.pointer none)).setIfInBounds 38 (.slice none 0 0))) 13 zero24 = pcells (PM.rest M) := by kernel_rfl
theorem rest_fin {w w6 : World} {O : Owners} {i pb : Nat} {M : PM} (h : PeerAt w O i pb M) (F : Fr (Sf i 1) w O w6 O) (hb : w6.heap[pb]? = some (.cells (setMany (((((((pcells M).setIfInBounds 10 (.int .i64 0)).setIfInBounds 11 (.int .i64 0)).setIfInBounds 12 (.bool false)).setIfInBounds 37 (.pointer none)).setIfInBounds 38 (.slice none 0 0))) 13 zero24) 70 (0, 0))) : Behind w O i pb (Mine i) w6 (PM.rest M) := by
  have hP := h.parts.fr (g := fun j => j = 1) (fun _ hf => hf.elim) (fun j hj => by rintro (e | e) <;> exact hj (congrArg Prod.snd e)) (sf_ro h.me) F
  rw [rest_cells] at hb
  exact ⟨O, ⟨F.clean, h.me, hb, h.tag, ⟨fun _ => hP.acc (by decide), fun _ => hP.ent (by decide), fun _ x hx => absurd hx (by simp [PM.rest]), fun _ => todo_nil _ _ _, fun _ => hP.nts (by decide), fun _ => hP.lts (by decide), fun _ => hP.chs (by decide), fun j hj _ => ⟨row_nil _ _ _ _ _, by simp [PM.rest, sl0]⟩, fun j hj _ => hP.box j hj (by omega), hP.img, hP.rim⟩⟩, F.mono sf_mine⟩
theorem rest_ok (w : World) (O : Owners) (i pb : Nat) (M : PM) (h : PeerAt w O i pb M) :
    Calls Tryz.prog 20 #[.pointer (some ⟨pb, 0, none⟩)] w fun e w' => e = .returned (.tuple #[]) ∧ Behind w O i pb (Mine i) w' (PM.rest M) := by
  have HP := Lib.hid h
  have hc := fun k => (kit.blk h.blk).1 k
  have hf := fun k => (kit.blk h.blk).2.1 k
  have x10 : w.cell? ⟨pb, 10, none⟩ = some (.int .i64 M.o1) := hc 10
  have x11 : w.cell? ⟨pb, 11, none⟩ = some (.int .i64 M.o2) := hc 11
  have x12 : w.cell? ⟨pb, 12, none⟩ = some (.bool M.leads) := hc 12
  have x37 : w.cell? ⟨pb, 37, none⟩ = some (optP (M.ob.map Prod.fst)) := hc 37
  have x38 : w.cell? ⟨pb, 38, none⟩ = some M.td.val := hc 38
  have f10 : w.frozen? ⟨pb, 10, none⟩ = false := hf 10
  have f11 : w.frozen? ⟨pb, 11, none⟩ = false := hf 11
  have f12 : w.frozen? ⟨pb, 12, none⟩ = false := hf 12
  have f37 : w.frozen? ⟨pb, 37, none⟩ = false := hf 37
  have f38 : w.frozen? ⟨pb, 38, none⟩ = false := hf 38
  have hpz := (kit.blk h.blk).2.2
  clear h hc hf
  go_enter Tryz.func20, Tryz.ntmps20
  go_upto_region 1 with fail
  obtain ⟨w5, hw5⟩ : ∃ w5 : World, w5 = ((((w.setCell ⟨pb, 10, none⟩ (.int .i64 0)).setCell ⟨pb, 11, none⟩ (.int .i64 0)).setCell ⟨pb, 12, none⟩ (.bool false)).setCell ⟨pb, 37, none⟩ (.pointer none)).setCell ⟨pb, 38, none⟩ (.slice none 0 0) := ⟨_, rfl⟩
  rw [← hw5]
  have h := HP.out
  have b0 := h.blk
  have b1 := hp_set b0 10 (.int .i64 0)
  have b2 := hp_set b1 11 (.int .i64 0)
  have b3 := hp_set b2 12 (.bool false)
  have b4 := hp_set b3 37 (.pointer none)
  have b5 := hp_set b4 38 (.slice none 0 0)
  have F : Fr (Sf i 1) w O w5 O := by
    rw [hw5]
    exact (((((Fr.refl (Sf i 1) h.clean).set (p := ⟨pb, 10, none⟩) (.inr (.inl h.tag)) b0 still_peer _).set (p := ⟨pb, 11, none⟩) (.inr (.inl h.tag)) b1 still_peer _).set (p := ⟨pb, 12, none⟩) (.inr (.inl h.tag)) b2 still_peer _).set (p := ⟨pb, 37, none⟩) (.inr (.inl h.tag)) b3 still_peer _).set (p := ⟨pb, 38, none⟩) (.inr (.inl h.tag)) b4 still_peer _
  rw [← hw5] at b5
  obtain ⟨F6, b6⟩ := fr_setCells (S := Sf i 1) (w := w) (O := O) (O' := O) (T := 70) (b := pb) (.inr (.inl h.tag)) still_peer zero24 13 w5 _ F b5
  have hth : w5.there pb 13 24 := fun j hj => by
    refine ⟨?_, (kit.blk b5).2.1 _⟩
    rw [(kit.blk b5).1 (13 + j), Array.getElem?_eq_getElem (by show 13 + j < 58; omega)]
    rfl
  have HF6 := Lib.hid F6
  have HB6 := Lib.hid b6
  have HTH := Lib.hid hth
  clear hw5 h b0 b1 b2 b3 b4 b5 F F6 b6 hth x10 x11 x12 x37 x38 f10 f11 f12 f37 f38
  go_wp2_with (refine wpList_store_mid rfl 63 (.tmp 18) (.tmp 16) rfl pb 13 zero24.toArray rfl rfl HTH.out (by kernel_rfl) (by kernel_rfl) ?_)
  refine bodyPost_end (v := .tuple #[]) (by simp [results, Tryz.results20, go_sem]) rfl ⟨rfl, ?_⟩
  exact rest_fin HP.out HF6.out HB6.out
end Go.Proofs.YtcaakiaenfkeaaaGreat.pert
