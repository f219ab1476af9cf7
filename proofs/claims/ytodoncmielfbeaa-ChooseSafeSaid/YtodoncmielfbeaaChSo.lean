/-
  ChooseSafe's small functions: has a member promised this draw; what does it propose for a slot; the next ballot.
-/
import Derived.Test.YtodoncmielfbeaaChSn
import Derived.Test.YtodoncmielfbeaaChB
namespace Go.Proofs.Ytodoncmielfbeaa.chso
open Go.ChangeShapes Go.WideShapes Go.ChangeAt Go.RowKit Go.Joins
open Go.Proofs.Ytodoncmielfbeaa.kit Go.Proofs.Ytodoncmielfbeaa.byt Go.Proofs.Ytodoncmielfbeaa.own Go.Proofs.Ytodoncmielfbeaa.accd Go.Proofs.Ytodoncmielfbeaa.chd Go.Proofs.Ytodoncmielfbeaa.chb Go.Proofs.Ytodoncmielfbeaa.che Go.Proofs.Ytodoncmielfbeaa.chw Go.Proofs.Ytodoncmielfbeaa.chsf Go.Proofs.Ytodoncmielfbeaa.chsm
set_option linter.unusedVariables false
set_option linter.unusedSimpArgs false
set_option maxHeartbeats 1000000
set_option maxRecDepth 100000

theorem promised_ok (w : World) (base : Nat) (u : Tw) (x : Int) (h : TwAt w base u) (hl : u.l.length ≤ 1024) :
    Calls Try.prog 23 #[.pointer (some ⟨u.tb, 0, none⟩), .int .i64 x] w fun e w' => e = .returned (.bool (u.l.any (fun p => decide (p.node = x)))) ∧ w' = w := by
  have HR := Lib.hid (h.prs.rowP (by omega))
  obtain ⟨y0, y1, y2, y3, y4, yz⟩ := blk5 h.blk
  have y2' : w.cell? ⟨u.tb, 2, none⟩ = some (.slice u.a u.l.length u.c) := y2
  clear y0 y1 y2 y3 y4 h
  have hl9 : u.l.length ≤ 9223372036854775807 := by omega
  go_enter Try.func23, Try.ntmps23
  go_wp2_with fail
  go_loopw [5] (fun i wr => ∃ k : Nat, k ≤ u.l.length ∧ i = .int .i64 k ∧ Hid ((u.l.take k).any (fun p => decide (p.node = x)) = false) ∧ wr = w) (fun i _ => u.l.length - (RowKit.intOf i).toNat)
  case atStart => exact ⟨0, Nat.zero_le _, rfl, by simp [Hid], rfl⟩
  case round =>
    obtain ⟨k, hk, rfl, HN, rfl⟩ := hrel
    by_cases hlt : k < u.l.length
    · obtain ⟨g, off, hac, hgz, x0, x1⟩ := HR.out.cells k hlt
      have hs : (u.l.take (k + 1)).any (fun p => decide (p.node = x)) = ((u.l.take k).any (fun p => decide (p.node = x)) || decide (u.l[k].node = x)) := by
        rw [List.take_succ_eq_append_getElem hlt, List.any_append]; simp
      rw [HN.out, Bool.false_or] at hs
      have hany : u.l[k].node = x → u.l.any (fun p => decide (p.node = x)) = true := fun e => List.any_eq_true.2 ⟨_, List.getElem_mem hlt, by simp [e]⟩
      rw [hac] at y2'
      obtain ⟨p, hp⟩ : ∃ p, p = u.l[k].node := ⟨_, rfl⟩
      rw [← hp] at x0 hs hany
      have HS := Lib.hid hs
      have HANY := Lib.hid hany
      clear hs hany x1 hp hac
      by_cases he : p = x
      · subst he
        have HA := Lib.hid (HANY.out rfl)
        clear HANY HS
        go_wp2_with fail
        go_ret
        exact ⟨by rw [HA.out]; rfl, rfl⟩
      · have t1 : (p == x) = false := by simpa using he
        have HT : Hid ((u.l.take (k + 1)).any (fun p => decide (p.node = x)) = false) := by simp only [Hid]; rw [HS.out]; simpa using he
        clear HANY HS he
        go_wp2_with fail
        go_roundw
        case rel => exact ⟨k + 1, by omega, by go_num, HT, trivial⟩
        case measure => simp [RowKit.intOf]; omega
    · obtain rfl : k = u.l.length := by omega
      rw [List.take_length] at HN
      go_wp2_with fail
      go_ret
      exact ⟨by rw [HN.out]; rfl, rfl⟩

/-- What proposal answers. -/
def PropR (w : World) (u : Tw) (x : Int) (e : Ending) (w' : World) : Prop :=
  w' = w ∧ ((e = .returned (.tuple #[.slice none 0 0, .bool false]) ∧ chsf.look (u.es.map le) x = none) ∨ (∃ t ∈ u.es, e = .returned (.tuple #[.slice t.a t.l.length t.c, .bool true]) ∧ t.s = x ∧ chsf.look (u.es.map le) x = some t.l))
theorem proposal_ok (w : World) (base : Nat) (u : Tw) (x : Int) (h : TwAt w base u) (hl : u.es.length ≤ 1099511627776) :
    Calls Try.prog 24 #[.pointer (some ⟨u.tb, 0, none⟩), .int .i64 x] w (PropR w u x) := by
  have HR := Lib.hid (h.pro.rows hl h.fit)
  obtain ⟨y0, y1, y2, y3, y4, yz⟩ := blk5 h.blk
  have y3' : w.cell? ⟨u.tb, 3, none⟩ = some (.slice u.ea u.es.length u.ec) := y3
  have y2' : w.cell? ⟨u.tb, 2, none⟩ = some (.slice u.a u.l.length u.c) := y2
  have hl9 : u.es.length ≤ 9223372036854775807 := by omega
  clear y0 y1 y2 y3 y4 y2' h
  go_enter Try.func24, Try.ntmps24
  go_wp2_with fail
  go_loopw [6] (fun i wr => ∃ k : Nat, k ≤ u.es.length ∧ i = .int .i64 k ∧ Hid (chsf.look ((u.es.take k).map le) x = none) ∧ wr = w) (fun i _ => u.es.length - (RowKit.intOf i).toNat)
  case atStart => exact ⟨0, Nat.zero_le _, rfl, by simp [Hid, chsf.look], rfl⟩
  case round =>
    obtain ⟨k, hk, rfl, HN, rfl⟩ := hrel
    by_cases hlt : k < u.es.length
    · obtain ⟨g, off, hac, hgz, x0, x1⟩ := HR.out.cells k hlt
      have hs : chsf.look ((u.es.take (k + 1)).map le) x = chsf.look [le u.es[k]] x := by
        rw [List.take_succ_eq_append_getElem hlt, List.map_append, chsf.look_append, HN.out]; rfl
      have hany : u.es[k].s = x → chsf.look (u.es.map le) x = some u.es[k].l := fun e => by
        have h1 : u.es.map le = (u.es.take (k + 1)).map le ++ (u.es.drop (k + 1)).map le := by rw [← List.map_append, List.take_append_drop]
        rw [h1]
        refine chsf.look_kept ?_ _
        rw [hs]
        simp [chsf.look, le, e]
      have hmem := List.getElem_mem hlt
      rw [hac] at y3'
      obtain ⟨p, hp⟩ : ∃ p, p = u.es[k] := ⟨_, rfl⟩
      rw [← hp] at x0 x1 hs hany hmem
      have HS := Lib.hid hs
      have HANY := Lib.hid hany
      have HMEM := Lib.hid hmem
      clear hs hany hp hac hmem
      by_cases he : p.s = x
      · have t1 : (p.s == x) = true := by simpa using he
        have HE := Lib.hid he
        clear HS he
        go_wp2_with fail
        refine bodyPost_ret (v := .tuple #[.slice p.a p.l.length p.c, .bool true]) (by simp [results, Try.results24, go_sem]) rfl ?_
        exact ⟨rfl, .inr ⟨p, HMEM.out, rfl, HE.out, HANY.out HE.out⟩⟩
      · have t1 : (p.s == x) = false := by simpa using he
        have HT : Hid (chsf.look ((u.es.take (k + 1)).map le) x = none) := by simp only [Hid]; rw [HS.out]; simp [chsf.look, le, he]
        clear HANY HS he
        go_wp2_with fail
        go_roundw
        case rel => exact ⟨k + 1, by omega, by go_num, HT, trivial⟩
        case measure => simp [RowKit.intOf]; omega
    · obtain rfl : k = u.es.length := by omega
      rw [List.take_length] at HN
      go_wp2_with fail
      refine bodyPost_ret (v := .tuple #[.slice none 0 0, .bool false]) (by simp [results, Try.results24, go_sem]) rfl ?_
      exact ⟨rfl, .inl ⟨rfl, HN.out⟩⟩

/-- The next ballot of a node behind a round that is not great. -/
theorem next_ok (r n : Int) (hr : 0 ≤ r ∧ r ≤ 1000000) (hn : 1 ≤ n ∧ n ≤ 5) (w : World) :
    Calls Try.prog 21 #[.agg #[.int .i64 r, .int .i64 0], .int .i64 n] w fun e w' => e = .returned (.tuple #[.agg #[.int .i64 (r + 1), .int .i64 n], .int .i64 0]) ∧ Below w.heap.size w w' := by
  have hk : bal.knownB n = true := by simp [bal.knownB]; omega
  have h3 : (r == 9223372036854775807) = false := by simp; omega
  have h1 : IntKind.i64.wrap (r + 1) = r + 1 := IntWalk.i64_in _ (by omega)
  have h2 : ¬ (r + 1 < 1) := by omega
  go_enter Try.func21, Try.ntmps21
  go_wp2_with (go_at_call 48; refine (known_any _ _).mono ?_; rintro e w' ⟨rfl, rfl⟩)
  all_goals exact bodyPost_ret (v := .tuple #[.agg #[.int .i64 (r + 1), .int .i64 n], .int .i64 0]) (by simp [results, Try.results21, go_sem]; omega) rfl ⟨rfl, (((Below.refl _ _).alloc (Nat.le_refl _) _).alloc (by simp) _)⟩
end Go.Proofs.Ytodoncmielfbeaa.chso
