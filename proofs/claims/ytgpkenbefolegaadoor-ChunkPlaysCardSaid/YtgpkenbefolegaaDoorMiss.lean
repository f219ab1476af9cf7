/-
  Contracts of (*Box).Missing and Clear.
-/
import Derived.Test.YtgpkenbefolegaaDoorDone
namespace Go.Proofs.YtgpkenbefolegaaDoor.box
open Go.ChangeShapes Go.WideShapes Go.ChangeAt Go.RowKit
open Go.Maps
open Go.Proofs.YtgpkenbefolegaaDoor.kit Go.Proofs.YtgpkenbefolegaaDoor.mapkit Go.Proofs.YtgpkenbefolegaaDoor.byt Go.Proofs.YtgpkenbefolegaaDoor.sum Go.Proofs.YtgpkenbefolegaaDoor.cut
set_option linter.unusedVariables false
set_option linter.unusedSimpArgs false
set_option maxHeartbeats 1000000
set_option maxRecDepth 100000

def icells (l : List Nat) : List Value := l.map fun x : Nat => Value.int .i64 (x : Int)
theorem icells_len (l : List Nat) : (icells l).length = l.length := by simp [icells]
theorem icells_append (a b : List Nat) : icells (a ++ b) = icells a ++ icells b := by simp [icells]
theorem icells_one (l : List Nat) : ∀ u ∈ icells l, u.oneCell' = true := by
  intro u hu
  simp only [icells, List.mem_map] at hu
  obtain ⟨x, _, rfl⟩ := hu
  rfl
theorem icells_get {l : List Nat} {i : Nat} (h : i < l.length) : (icells l)[i]? = some (.int .i64 (l[i] : Nat)) := by simp [icells, h]
theorem infoInt : (Tryd.prog.info? 3).map (fun i => (i.zero, i.size, i.bytes)) = some (some (.int .i64 0), 1, 8) := by kernel_rfl

/-- A slice of ints of the call's own. -/
def IntsAt (w : World) (base : Nat) (v : Value) (l : List Nat) : Prop := w.ownsRow base 3 1 v l.length (icells l)
def MissIs (l : List Nat) (w : World) (e : Ending) (w' : World) : Prop := ∃ v, e = .returned v ∧ IntsAt w' w.heap.size v l ∧ Below w.heap.size w w'

def missN (V : BoxV) (k : Nat) : List Nat := (List.range k).filter fun i => (V.get i).isNone
theorem miss_succ (V : BoxV) (k : Nat) : missN V (k + 1) = missN V k ++ if (V.get k).isSome then [] else [k] := by
  simp only [missN, List.range_succ, List.filter_append]
  cases h : V.get k <;> simp [h]
theorem miss_len (V : BoxV) (k : Nat) : (missN V k).length ≤ k := by
  have := List.length_filter_le (fun i => (V.get i).isNone) (List.range k)
  simpa [missN] using this

theorem miss_ok (w : World) (base b m : Nat) (V : BoxV) (h : BoxAt w base b m V) :
    Calls Tryd.prog 20 #[.pointer (some ⟨b, 0, none⟩)] w (MissIs (missV V) w) := by
  obtain ⟨cnt, hcnt⟩ : ∃ c, c = V.cnt := ⟨_, rfl⟩
  obtain ⟨b0, b1, b2, f0, f1, _, hzb⟩ := blk3 h.blk
  have hlen : ∀ (ty : TypeId), (Builtin.len_ #[55] ty #[.map (some m)]).run Tryd.prog w = .ok (.int .i64 cnt) w := by
    intro ty
    obtain ⟨f, hf, _⟩ := h.map
    rw [hcnt]
    exact hf.run_len Tryd.underlying55 ty
  have hpos := h.wf.pos
  have hle := h.wf.le
  obtain ⟨t, hT⟩ : ∃ t : Nat, V.tot = (t : Int) := ⟨V.tot.toNat, by omega⟩
  have htn : V.tot.toNat = t := by omega
  have hmv : missV V = if cnt = 0 then [0] else missN V t := by unfold missV; rw [htn, hcnt]; rfl
  rw [hT] at b0
  have ht16 : t ≤ 16 := by omega
  by_cases h0 : cnt = 0
  · rw [hmv, if_pos h0]
    subst h0
    clear hmv htn hT hcnt hpos hle h
    have hN : IntsAt (w.alloc (.cells #[.int .i64 0] 3)) w.heap.size (.slice (some ⟨w.heap.size, 0, none⟩) 1 1) [0] :=
      ⟨by simp [icells], .inr ⟨w.heap.size, 1, #[.int .i64 0], rfl, Nat.le_refl _, hp_alloc_new _ _, by simp, by simp [maxLen], by simp, rfl⟩⟩
    have HN := Lib.hid hN
    clear hN
    go_enter Tryd.func20, Tryd.ntmps20
    go_wp2_with fail
    exact bodyPost_ret (v := .slice (some ⟨w.heap.size, 0, none⟩) 1 1) (by simp [results, Tryd.results20, go_sem]) rfl ⟨_, rfl, HN.out, below_new1 _ _⟩
  · rw [hmv, if_neg h0]
    obtain ⟨j0, hj, hy0, hy1, hy2⟩ := info_parts infoInt
    have hLK : Hid (∀ k, k < t → ∃ v, ∀ W, Below w.heap.size w W → (Instr.lookup 55 (.map (some m)) (.int .i64 k) true).run Tryd.prog W = .ok (.tuple #[v, .bool (V.get k).isSome]) W) := by
      intro k hk
      obtain ⟨v, _, h1, _⟩ := look_at h k (by omega)
      exact ⟨v, h1⟩
    have hc0 : ((cnt : Int) == 0) = false := by simp; omega
    clear hmv htn hT hcnt hpos hle h
    go_enter Tryd.func20, Tryd.ntmps20
    go_wp2_with fail
    go_loopw [3, 21] (fun v i wr => ∃ (k : Nat), k ≤ t ∧ i = .int .i64 k ∧ IntsAt wr w.heap.size v (missN V k) ∧ Below w.heap.size w wr) (fun v i _ => t - (intOf i).toNat)
    case atStart => exact ⟨0, Nat.zero_le _, rfl, World.ownsRow_nil _ _ _ _, Below.refl _ _⟩
    case round =>
      obtain ⟨k, hk, rfl, hown, hb⟩ := hrel
      by_cases hlt : k < t
      · obtain ⟨v, hlk⟩ := hLK.out k hlt
        have hlk2 := hlk wr hb
        have hbs := hb.size
        have c2 : wr.cell? ⟨b, 2, none⟩ = some (.map (some m)) := by rw [(bcell hb).1 _ _ hzb]; exact b2
        have HO := Lib.hid hown
        have hml := miss_len V k
        obtain ⟨y, hy⟩ : ∃ y, y = missN V k := ⟨_, rfl⟩
        have hys : missN V (k + 1) = y ++ if (V.get k).isSome then [] else [k] := by rw [miss_succ, hy]
        have HYS := Lib.hid hys
        rw [← hy] at HO hml
        clear hown hlk hy hys b0 b1 b2 f0 f1 hlen
        by_cases hs : (V.get k).isSome = true
        · rw [hs] at hlk2
          have hYS := HYS.out
          rw [if_pos hs, List.append_nil] at hYS
          have HY2 := Lib.hid hYS
          clear hYS hs
          go_wp2_with fail
          go_roundw
          case rel =>
            refine ⟨k + 1, by omega, by go_num, ?_, hb⟩
            rw [HY2.out]
            exact HO.out
          case measure => simp [intOf]; omega
        · have hs' : (V.get k).isSome = false := by simpa using hs
          rw [hs'] at hlk2
          have hYS := HYS.out
          rw [if_neg hs] at hYS
          have HY2 := Lib.hid hYS
          clear hYS hs hs'
          go_wp2_with (at_builtin; refine wpl_append rfl (.tmp 35) (.tmp 37) 43 rfl w.heap.size 3 j0 _ 1 8 Tryd.underlying43 hj hy0 hy1 hy2 rfl (by decide) u3 y.length (icells y) rfl (HO.out.alloc _) (some ⟨wr.heap.size, 0, none⟩) 1 1 (icells [k]) rfl (by simp) rfl ?hL (icells_one _) (by unfold maxLen; omega) (by omega) ?hB ?_)
          case hL => exact .inr ⟨_, 0, rfl, by rw [size_new]; omega, fun i hi => by rw [Nat.zero_add, (blk (hp_alloc_new _ _)).1]; match i, hi with | 0, _ => rfl⟩
          case hB => rw [size_new]; omega
          intro v' w' hown' hgr
          go_wp2_with fail
          refine ⟨⟨k + 1, by omega, by go_num, ?_, (hb.alloc hbs _).grown hgr (by rw [size_new]; omega) (fun j hj => (HO.out.lt j hj).1)⟩, by simp [intOf]; omega⟩
          rw [HY2.out]
          unfold IntsAt
          rw [List.length_append, icells_append]
          exact hown'
      · obtain rfl : t = k := by omega
        have HO := Lib.hid hown
        clear hown
        go_wp2_with fail
        exact bodyPost_ret (v := u3) (by simp [results, Tryd.results20, go_sem]) rfl ⟨_, rfl, HO.out, hb⟩
end Go.Proofs.YtgpkenbefolegaaDoor.box
