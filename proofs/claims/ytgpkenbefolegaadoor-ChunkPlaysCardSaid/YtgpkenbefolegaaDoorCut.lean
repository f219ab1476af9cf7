/-
  Contracts of chunk.Cut and of the reference's Cut; lists of pieces in memory.
-/
import Derived.Test.YtgpkenbefolegaaDoorSum
namespace Go.Proofs.YtgpkenbefolegaaDoor.cut
open Go.ChangeShapes Go.WideShapes Go.ChangeAt Go.RowKit
open Go.Proofs.YtgpkenbefolegaaDoor.kit Go.Proofs.YtgpkenbefolegaaDoor.byt Go.Proofs.YtgpkenbefolegaaDoor.sum
set_option linter.unusedVariables false
set_option linter.unusedSimpArgs false
set_option maxHeartbeats 1000000
set_option maxRecDepth 100000

/-- A piece as it lies in memory: its numbers, and where its bcells lie. -/
structure PieceV where
  pos : Int
  tot : Int
  sum : Nat
  addr : Option Addr
  cap : Nat
  data : List Nat

def pcells (p : PieceV) : List Value := [.int .i64 p.pos, .int .i64 p.tot, .int .u32 p.sum, .slice p.addr p.data.length p.cap]
def pcellsL (l : List PieceV) : List Value := l.flatMap pcells
theorem pcellsL_len (l : List PieceV) : (pcellsL l).length = l.length * 4 := by
  induction l with
  | nil => rfl
  | cons x l ih => simp only [pcellsL, pcells, List.flatMap_cons, List.length_append, List.length_cons, List.length_nil] at *; omega
theorem pcellsL_one (l : List PieceV) : ∀ u ∈ pcellsL l, u.oneCell' = true := by
  intro u hu
  simp only [pcellsL, List.mem_flatMap] at hu
  obtain ⟨x, _, hx⟩ := hu
  simp only [pcells, List.mem_cons, List.not_mem_nil, or_false] at hx
  rcases hx with rfl | rfl | rfl | rfl <;> rfl
theorem pcellsL_append (a b : List PieceV) : pcellsL a ++ pcellsL b = pcellsL (a ++ b) := by simp [pcellsL]
theorem pcellsL_get (l : List PieceV) : ∀ i (h : i < l.length) j, j < 4 → (pcellsL l)[i * 4 + j]? = (pcells l[i])[j]? := by
  induction l with
  | nil => intro i hi; simp at hi
  | cons x l ih =>
    intro i hi j hj
    have e : pcellsL (x :: l) = pcells x ++ pcellsL l := by simp [pcellsL]
    have h4 : (pcells x).length = 4 := rfl
    rw [e]
    cases i with
    | zero => rw [List.getElem?_append_left (by omega)]; simp
    | succ i =>
      rw [List.getElem?_append_right (by omega), h4, show (i + 1) * 4 + j - 4 = i * 4 + j by omega, ih i (by simpa using hi) j hj]
      rfl

/-- The bytes of a piece lie in memory from base on. -/
def DataAt (w : World) (base : Nat) (p : PieceV) : Prop := w.ownsRow base 5 1 (.slice p.addr p.data.length p.cap) p.data.length (bcells p.data)
def PiecesAt (w : World) (base : Nat) (v : Value) (l : List PieceV) : Prop :=
  w.ownsRow base 33 4 v l.length (pcellsL l) ∧ ∀ p ∈ l, DataAt w base p

theorem own_below {w w' : World} {base : Nat} {e : TypeId} {size : Nat} {v : Value} {n : Nat} {xs : List Value} (h : w.ownsRow base e size v n xs) (hb : Below w.heap.size w w') : w'.ownsRow base e size v n xs := by
  obtain ⟨h1, h2⟩ := h
  refine ⟨h1, ?_⟩
  rcases h2 with h2 | ⟨g, cap, cur, hv, hg, hh, r⟩
  · exact .inl h2
  · exact .inr ⟨g, cap, cur, hv, hg, hp_step hh hb, r⟩
theorem own_mono {w : World} {base base' : Nat} {e : TypeId} {size : Nat} {v : Value} {n : Nat} {xs : List Value} (h : w.ownsRow base e size v n xs) (hb : base' ≤ base) : w.ownsRow base' e size v n xs := by
  obtain ⟨h1, h2⟩ := h
  refine ⟨h1, ?_⟩
  rcases h2 with h2 | ⟨g, cap, cur, hv, hg, hh, r⟩
  · exact .inl h2
  · exact .inr ⟨g, cap, cur, hv, by omega, hh, r⟩
theorem PiecesAt.below {w w' : World} {base : Nat} {v : Value} {l : List PieceV} (h : PiecesAt w base v l) (hb : Below w.heap.size w w') : PiecesAt w' base v l :=
  ⟨own_below h.1 hb, fun p hp => own_below (h.2 p hp) hb⟩
theorem own_ne {w : World} {b1 b2 : Nat} {e1 e2 : TypeId} {s1 s2 : Nat} {v1 v2 : Value} {n1 n2 : Nat} {x1 x2 : List Value} (h1 : w.ownsRow b1 e1 s1 v1 n1 x1) (h2 : w.ownsRow b2 e2 s2 v2 n2 x2) (hne : e1 ≠ e2) :
    v1.ownBlock = none ∨ v1.ownBlock ≠ v2.ownBlock := by
  rcases h1.2 with ⟨rfl, _⟩ | ⟨g, cap, cur, rfl, hg, hh, _⟩
  · left; rfl
  · right
    rcases h2.2 with ⟨rfl, _⟩ | ⟨g', cap', cur', rfl, hg', hh', _⟩
    · simp [Value.ownBlock]
    · simp only [Value.ownBlock, ne_eq, Option.some.injEq]
      rintro rfl
      rw [hh] at hh'
      simp only [Option.some.injEq, Obj.cells.injEq] at hh'
      exact hne hh'.2.1

def nOf (l : List Nat) : Nat := max ((l.length + 511) / 512) 1
def part (l : List Nat) (i : Nat) : List Nat := (l.drop (512 * i)).take 512
/-- What a piece has to be. -/
def IsPart (l : List Nat) (i : Nat) (p : PieceV) : Prop := p.pos = i ∧ p.tot = nOf l ∧ p.sum = sumL l ∧ p.data = part l i

theorem infoPiece : (Tryd.prog.info? 33).map (fun i => (i.zero, i.size, i.bytes)) = some (some (.agg #[.int .i64 0, .int .i64 0, .int .u32 0, .slice none 0 0]), 4, 48) := by kernel_rfl

theorem Tab.below {w w' : World} (h : Tab w) (hb : Below w.heap.size w w') : Tab w' := fun i hi => cell_step (h i hi) hb

def GivesPieces (w : World) (l : List Nat) (e : Ending) (w' : World) : Prop :=
  ∃ v ps, e = .returned (.tuple #[v, .int .i64 0]) ∧ PiecesAt w' w.heap.size v ps ∧ ps.length = nOf l ∧ (∀ i (h : i < ps.length), IsPart l i ps[i]) ∧ Below w.heap.size w w'

theorem own_shape {w : World} {base : Nat} {e : TypeId} {size : Nat} {v : Value} {n : Nat} {xs : List Value} (h : w.ownsRow base e size v n xs) : ∃ a c, v = .slice a n c ∧ (a = none → n = 0 ∧ c = 0) ∧ n ≤ c ∧ c ≤ maxLen := by
  rcases h.2 with ⟨rfl, rfl⟩ | ⟨g, cap, cur, rfl, hg, hh, hc, hm, hsz, hx⟩
  · exact ⟨none, 0, rfl, fun _ => ⟨rfl, rfl⟩, Nat.le_refl _, by simp [maxLen]⟩
  · exact ⟨_, cap, rfl, by simp, hc, hm⟩

theorem piece_of {w : World} {base : Nat} (v : Value) (d : List Nat) (pos tot : Int) (sum : Nat) (h : w.ownsRow base 5 1 v d.length (bcells d)) :
    ∃ p : PieceV, v = .slice p.addr p.data.length p.cap ∧ (p.pos = pos ∧ p.tot = tot ∧ p.sum = sum ∧ p.data = d) ∧ DataAt w base p := by
  obtain ⟨a, c, rfl, _⟩ := own_shape h
  exact ⟨⟨pos, tot, sum, a, c, d⟩, rfl, ⟨rfl, rfl, rfl, rfl⟩, h⟩

theorem part_lie {w wr : World} {l : List Nat} {b off k : Nat} (h : Lie w (some ⟨b, off, none⟩) (bcells l)) (hb : Below w.heap.size w wr) (hbl : b < w.heap.size) (hk : 512 * k ≤ l.length) : Lie wr (some ⟨b, off + k * 512, none⟩) (bcells (part l k)) := by
  refine .inr ⟨b, off + k * 512, rfl, Nat.lt_of_lt_of_le hbl hb.size, fun i hi => ?_⟩
  rw [bcells_len] at hi
  rw [hb.cell (by exact hbl), bcells_get hi]
  have hi2 : i < 512 ∧ 512 * k + i < l.length := by simp [part] at hi; omega
  rcases h with h | ⟨b', off', e, _, h⟩
  · have : l = [] := by simpa [bcells] using h
    subst this; simp at hi2
  · simp only [Option.some.injEq, Addr.mk.injEq, and_true] at e
    obtain ⟨rfl, rfl⟩ := e
    rw [show off + k * 512 + i = off + (512 * k + i) by omega, h _ (by rw [bcells_len]; exact hi2.2), bcells_get hi2.2]
    simp [part]

theorem lie_new4 (w : World) (a b c d : Value) (T : TypeId) : Lie (w.alloc (.cells #[a, b, c, d] T)) (some ⟨w.heap.size, 0, none⟩) [a, b, c, d] := by
  refine .inr ⟨_, 0, rfl, by rw [size_new]; omega, fun i hi => ?_⟩
  have hb := blk (hp_alloc_new w (.cells #[a, b, c, d] T))
  rw [Nat.zero_add, hb.1]
  match i, hi with
  | 0, _ => rfl
  | 1, _ => rfl
  | 2, _ => rfl
  | 3, _ => rfl
theorem pcells_one (p : PieceV) : ∀ u ∈ pcells p, u.oneCell' = true := by
  have := pcellsL_one [p]
  simpa [pcellsL] using this

theorem PiecesAt.more {w w' : World} {base k : Nat} {v v' : Value} {ps : List PieceV} {p : PieceV} (hrow : w.ownsRow base 33 4 v k (pcellsL ps)) (hk : ps.length = k) (hd : ∀ q ∈ ps, DataAt w base q) (hp : DataAt w base p)
    (hown : w'.ownsRow base 33 4 v' (k + 1) (pcellsL ps ++ pcells p)) (hgr : w.grownBy w' v.ownBlock) : PiecesAt w' base v' (ps ++ [p]) := by
  refine ⟨?_, fun q hq => ?_⟩
  · rw [← pcellsL_append, List.length_append, hk]
    simpa [pcellsL] using hown
  · have : DataAt w base q := by
      rcases List.mem_append.1 hq with h | h
      · exact hd q h
      · rw [List.mem_singleton.1 h]; exact hp
    exact World.ownsRow.kept this hgr (own_ne this hrow (by decide))

theorem cut_some (l : List Nat) (b off cap : Nat) (w : World) (hne : 0 < l.length) (hl : l.length ≤ 8192) (hlc : l.length ≤ cap) (hcm : cap ≤ 9223372036854775807) (hby : Byt l) (ht : Tab w) (hbl : b < w.heap.size) (hat : Lie w (some ⟨b, off, none⟩) (bcells l)) :
    Calls Tryd.prog 10 #[.slice (some ⟨b, off, none⟩) l.length cap] w (GivesPieces w l) := by
  obtain ⟨i0, hi, hz0, hz1, hz2⟩ := info_parts infoPiece
  have hn1 : Hid (nOf l = (l.length + 511) / 512) := by simp only [Hid, nOf]; omega
  obtain ⟨n, hn⟩ : ∃ n, n = nOf l := ⟨_, rfl⟩
  have hn2 : (1 : Int) ≤ ((l.length : Int) + 512 - 1) / 512 := by omega
  have hn3 : Hid (((l.length : Int) + 512 - 1) / 512 = (n : Int)) := by simp only [Hid]; rw [hn, hn1.out]; omega
  have hn16 : n ≤ 16 := by rw [hn, hn1.out]; omega
  have hS : Hid (∀ W, Below w.heap.size w W → Calls Tryd.prog 28 #[.slice (some ⟨b, off, none⟩) l.length cap] W fun e w' => e = .returned (.int .u32 (sumL l)) ∧ W = w') :=
    fun W hb => sum_any l _ cap W (by omega) hby (Tab.below ht hb) (hat.below hb)
  obtain ⟨sm, hsm⟩ : ∃ s, s = sumL l := ⟨_, rfl⟩
  rw [← hsm] at hS
  have HSM := Lib.hid hsm
  have HN := Lib.hid hn
  have HAT := Lib.hid hat
  clear hsm hn ht hat hby
  go_enter Tryd.func10, Tryd.ntmps10
  go_wp2_with fail
  refine (hS.out _ (Below.refl _ _)).mono ?_; rintro e w1 ⟨rfl, rfl⟩
  rw [hn3.out]
  go_wp2_with fail
  go_loopw [6, 20] (fun v i wr => ∃ (k : Nat) (ps : List PieceV), k ≤ n ∧ i = .int .i64 k ∧ PiecesAt wr w.heap.size v ps ∧ ps.length = k ∧ (∀ i (h : i < ps.length), IsPart l i ps[i]) ∧ Below w.heap.size w wr) (fun v i _ => n - (intOf i).toNat)
  case atStart => exact ⟨0, [], Nat.zero_le _, rfl, ⟨World.ownsRow_nil _ _ _ _, by simp⟩, rfl, by simp, Below.refl _ _⟩
  case round =>
    obtain ⟨k, ps, hk, rfl, hps, hpl, hpart, hb⟩ := hrel
    by_cases hlt : k < n
    · have hA : 512 * k ≤ l.length := by have h1 := HN.out; have h2 := hn1.out; omega
      have hA2 : 512 * k < cap := by have h1 := HN.out; have h2 := hn1.out; omega
      have hck : ¬ cap = k * 512 := by omega
      have e1 : ¬ ((k : Int) + 1) * 512 ≤ (l.length : Int) → l.length - k * 512 = (part l k).length := by intro h; simp [part]; omega
      have e2 : ((k : Int) + 1) * 512 ≤ (l.length : Int) → (k + 1) * 512 - k * 512 = (part l k).length := by intro h; simp [part]; omega
      have hplen : (part l k).length ≤ 512 := by simp [part]; omega
      have HPL : Hid (Lie wr (some ⟨b, off + k * 512, none⟩) (bcells (part l k))) := part_lie HAT.out hb hbl (by omega)
      have HPS := Lib.hid hps
      have HPT := Lib.hid hpart
      have E1 := Lib.hid e1
      have E2 := Lib.hid e2
      clear hps hpart e1 e2
      by_cases hm : ((k : Int) + 1) * 512 ≤ (l.length : Int)
      all_goals
        have hm' := hm
        go_wp2_with fail
        first | rw [E1.out hm'] | rw [E2.out hm']
        refine (clone_any (part l k) _ _ _ (by omega) (by simp) HPL.out).mono ?_; rintro e w1 ⟨v, rfl, hv, hb1⟩
        obtain ⟨pa, pc, rfl, -⟩ := own_shape hv
        have HV := Lib.hid hv
        clear hv
        have hO := own_below HPS.out.1 hb1
        rw [hpl] at hO
        have hbs := hb.size
        have hbs1 := hb1.size
        go_wp2_with (at_builtin; refine wpl_append rfl (.tmp 33) (.tmp 40) 24 rfl w.heap.size 33 i0 _ 4 48 Tryd.underlying24 hi hz0 hz1 hz2 rfl (by decide) u6 k (pcellsL ps) rfl (hO.alloc _) (some ⟨w1.heap.size, 0, none⟩) 1 1 (pcells ⟨k, n, sm, pa, pc, part l k⟩) rfl (by simp) rfl ?hL (pcells_one _) (by unfold maxLen; omega) (by omega) ?hB ?_)
        case hL => exact lie_new4 _ _ _ _ _ _
        case hB => rw [size_new]; omega
        intro v' w' hown' hgr
        go_wp2_with fail
        have hP := HPS.out
        have hd : ∀ q ∈ ps, DataAt (w1.alloc (.cells #[.int .i64 k, .int .i64 n, .int .u32 sm, .slice pa (part l k).length pc] 33)) w.heap.size q := fun q hq => (own_below (hP.2 q hq) hb1).alloc _
        have hnew : DataAt (w1.alloc (.cells #[.int .i64 k, .int .i64 n, .int .u32 sm, .slice pa (part l k).length pc] 33)) w.heap.size ⟨k, n, sm, pa, pc, part l k⟩ := (own_mono HV.out hbs).alloc _
        have hmore := PiecesAt.more (hO.alloc _) hpl hd hnew hown' hgr
        have hBn : Below w.heap.size w w' := ((hb.trans (Below.mono hb1 hbs)).alloc (by omega) _).grown hgr (by rw [size_new]; omega) (fun j hj => (hO.lt j hj).1)
        have hPn : ∀ (i : Nat) (h : i < (ps ++ [(⟨k, n, sm, pa, pc, part l k⟩ : PieceV)]).length), IsPart l i (ps ++ [(⟨k, n, sm, pa, pc, part l k⟩ : PieceV)])[i] := by
          intro i hi
          by_cases hil : i < ps.length
          · rw [List.getElem_append_left hil]; exact HPT.out i hil
          · obtain rfl : i = k := by simp at hi; omega
            rw [List.getElem_append_right (by omega)]
            simp only [hpl, Nat.sub_self, List.getElem_cons_zero]
            exact ⟨rfl, by rw [HN.out], HSM.out, rfl⟩
        refine ⟨⟨k + 1, ps ++ [⟨k, n, sm, pa, pc, part l k⟩], hlt, by go_num, hmore, by simp [hpl], hPn, hBn⟩, by simp [intOf]; omega⟩
    · obtain rfl : n = k := by omega
      go_wp2_with fail
      exact bodyPost_ret (v := .tuple #[u6, .int .i64 0]) (by simp [results, Tryd.results10, go_sem]) rfl ⟨u6, ps, rfl, hps, by rw [hpl, HN.out], hpart, hb⟩

theorem cut_empty (a : Option Addr) (cap : Nat) (w : World) (hcm : cap ≤ 9223372036854775807) (hn : a = none → cap = 0) (ht : Tab w) :
    Calls Tryd.prog 10 #[.slice a 0 cap] w (GivesPieces w []) := by
  obtain ⟨i0, hi, hz0, hz1, hz2⟩ := info_parts infoPiece
  have hS : Hid (∀ W, Below w.heap.size w W → Calls Tryd.prog 28 #[.slice a 0 cap] W fun e w' => e = .returned (.int .u32 (sumL [])) ∧ W = w') :=
    fun W hb => sum_any [] _ cap W (by simp) (by intro x hx; simp at hx) (Tab.below ht hb) (.inl rfl)
  obtain ⟨sm, hsm⟩ : ∃ s, s = sumL [] := ⟨_, rfl⟩
  rw [← hsm] at hS
  have HSM := Lib.hid hsm
  clear hsm ht
  go_enter Tryd.func10, Tryd.ntmps10
  go_wp2_with fail
  refine (hS.out _ (Below.refl _ _)).mono ?_; rintro e w1 ⟨rfl, rfl⟩
  go_wp2_with fail
  refine wp_loop_rounds 2 ?_
  rw [rounds_succ]
  cases a with
  | none =>
    obtain rfl := hn rfl
    go_wp2_with fail
    refine (clone_any [] none 0 _ (by simp) (by simp) (.inl rfl)).mono ?_; rintro e w1 ⟨v, rfl, hv, hb1⟩
    obtain ⟨pa, pc, rfl, -⟩ := own_shape hv
    have HV := Lib.hid hv
    clear hv
    have hbs1 := hb1.size
    go_wp2_with (at_builtin; refine wpl_append rfl (.tmp 33) (.tmp 40) 24 rfl w.heap.size 33 i0 _ 4 48 Tryd.underlying24 hi hz0 hz1 hz2 rfl (by decide) (.slice none 0 0) 0 (pcellsL []) rfl (World.ownsRow_nil _ _ _ _) (some ⟨w1.heap.size, 0, none⟩) 1 1 (pcells ⟨0, 1, sm, pa, pc, []⟩) rfl (by simp) rfl ?hL (pcells_one _) (by unfold maxLen; omega) (by omega) ?hB ?_)
    case hL => exact lie_new4 _ _ _ _ _ _
    case hB => rw [size_new]; omega
    intro v' w' hown' hgr
    have hmore := PiecesAt.more (ps := []) (p := ⟨0, 1, sm, pa, pc, []⟩) (World.ownsRow_nil _ _ _ _) rfl (by simp) (HV.out.alloc _) hown' hgr
    have hBn : Below w.heap.size w w' := (hb1.alloc (by omega) _).grown hgr (by rw [size_new]; omega) (fun j hj => by simp [Value.ownBlock] at hj)
    have HM := Lib.hid hmore
    clear hmore hown' hgr
    go_wp2_with fail
    rw [rounds_succ]
    go_wp2_with fail
    exact bodyPost_ret (v := .tuple #[v', .int .i64 0]) (by simp [results, Tryd.results10, go_sem]) rfl ⟨v', _, rfl, HM.out, by simp [nOf], by
      intro i hi
      obtain rfl : i = 0 := by simp at hi; omega
      exact ⟨rfl, by simp [nOf], HSM.out, by simp [part]⟩, hBn⟩
  | some ad =>
    go_wp2_with fail
    refine (clone_any [] (some ad) cap _ (by simp) (by simp) (.inl rfl)).mono ?_; rintro e w1 ⟨v, rfl, hv, hb1⟩
    obtain ⟨pa, pc, rfl, -⟩ := own_shape hv
    have HV := Lib.hid hv
    clear hv
    have hbs1 := hb1.size
    go_wp2_with (at_builtin; refine wpl_append rfl (.tmp 33) (.tmp 40) 24 rfl w.heap.size 33 i0 _ 4 48 Tryd.underlying24 hi hz0 hz1 hz2 rfl (by decide) (.slice none 0 0) 0 (pcellsL []) rfl (World.ownsRow_nil _ _ _ _) (some ⟨w1.heap.size, 0, none⟩) 1 1 (pcells ⟨0, 1, sm, pa, pc, []⟩) rfl (by simp) rfl ?hL (pcells_one _) (by unfold maxLen; omega) (by omega) ?hB ?_)
    case hL => exact lie_new4 _ _ _ _ _ _
    case hB => rw [size_new]; omega
    intro v' w' hown' hgr
    have hmore := PiecesAt.more (ps := []) (p := ⟨0, 1, sm, pa, pc, []⟩) (World.ownsRow_nil _ _ _ _) rfl (by simp) (HV.out.alloc _) hown' hgr
    have hBn : Below w.heap.size w w' := (hb1.alloc (by omega) _).grown hgr (by rw [size_new]; omega) (fun j hj => by simp [Value.ownBlock] at hj)
    have HM := Lib.hid hmore
    clear hmore hown' hgr
    go_wp2_with fail
    rw [rounds_succ]
    go_wp2_with fail
    exact bodyPost_ret (v := .tuple #[v', .int .i64 0]) (by simp [results, Tryd.results10, go_sem]) rfl ⟨v', _, rfl, HM.out, by simp [nOf], by
      intro i hi
      obtain rfl : i = 0 := by simp at hi; omega
      exact ⟨rfl, by simp [nOf], HSM.out, by simp [part]⟩, hBn⟩

theorem cut_any (l : List Nat) (a : Option Addr) (cap : Nat) (w : World) (hl : l.length ≤ 8192) (hlc : l.length ≤ cap) (hcm : cap ≤ 9223372036854775807) (hn : a = none → l.length = 0 ∧ cap = 0) (hby : Byt l) (ht : Tab w) (hat : Lie w a (bcells l)) :
    Calls Tryd.prog 10 #[.slice a l.length cap] w (GivesPieces w l) := by
  by_cases h0 : l = []
  · subst h0
    exact cut_empty a cap w hcm (fun e => (hn e).2) ht
  · have hp := List.length_pos_iff.2 h0
    rcases hat with h | ⟨b, off, rfl, hb, hc⟩
    · exact absurd (by simpa [bcells] using h) h0
    · exact cut_some l b off cap w hp hl hlc hcm hby ht hb (.inr ⟨b, off, rfl, hb, hc⟩)

theorem cut_long (l : List Nat) (a : Option Addr) (cap : Nat) (w : World) (hl : 8192 < l.length) (hl2 : l.length ≤ 140737488355328) :
    Calls Tryd.prog 10 #[.slice a l.length cap] w fun e w' => e = .returned (.tuple #[.slice none 0 0, .int .i64 22]) ∧ w = w' := by
  have hn2 : (16 : Int) < ((l.length : Int) + 512 - 1) / 512 := by omega
  go_enter Tryd.func10, Tryd.ntmps10
  go_wp2_with fail
  exact bodyPost_ret (v := .tuple #[.slice none 0 0, .int .i64 22]) (by simp [results, Tryd.results10, go_sem]) rfl ⟨rfl, rfl⟩
end Go.Proofs.YtgpkenbefolegaaDoor.cut
