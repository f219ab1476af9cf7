/-
  Contracts of ballot.Count, Enough and of the reference's.
-/
import Derived.Test.YtjhegigcjchegaaBal
namespace Go.Proofs.Ytjhegigcjchegaa.bal
open Go.ChangeShapes Go.WideShapes Go.ChangeAt Go.RowKit
open Go.Proofs.Ytjhegigcjchegaa.kit
set_option linter.unusedVariables false
set_option linter.unusedSimpArgs false

theorem count_nil (n : Int) (a : Option Addr) (cap : Nat) (w : World) (h1 : 1 ≤ n) (h5 : n ≤ 5) :
    Calls Try.prog 17 #[.int .i64 n, .slice a 0 cap] w
      fun e w' => e = .returned (.int .i64 0) ∧ Below w.heap.size w w' := by
  have hk : knownB n = true := by simp [knownB, h1, h5]
  go_enter Try.func17, Try.ntmps17
  go_wp2_with (go_at_call 26; refine (known_any _ _).mono ?_; rintro e w' ⟨rfl, rfl⟩)
  refine wp_loop_rounds 1 ?_
  rw [rounds_succ]
  go_wp2
  go_ret
  exact ⟨rfl, (Below.refl _ _).alloc (Nat.le_refl _) _⟩

theorem count_ok (n : Int) (l : List Int) (b off : Nat) (cap : Nat) (w : World) (h1 : 1 ≤ n) (h5 : n ≤ 5) (hl : l.length ≤ 9223372036854775807) (hbl : b < w.heap.size)
    (hat : ∀ i, i < (ints l).length → w.cell? ⟨b, off + i, none⟩ = (ints l)[i]?) :
    Calls Try.prog 17 #[.int .i64 n, .slice (some ⟨b, off, none⟩) l.length cap] w
      fun e w' => e = .returned (.int .i64 (countB n l)) ∧ Below w.heap.size w w' := by
  have hk : knownB n = true := by simp [knownB, h1, h5]
  have HA := Lib.hid hat
  clear hat
  go_enter Try.func17, Try.ntmps17
  go_wp2_with (go_at_call 26; refine (known_any _ _).mono ?_; rintro e w' ⟨rfl, rfl⟩)
  go_loopw [5, 14] (fun c i wr => ∃ k : Nat, k ≤ l.length ∧ i = .int .i64 k ∧ c = .int .i64 (countB n (l.take k)) ∧ wr.heap[w.heap.size]? = some (.cells (seenArr n (l.take k)) 51 (0, 0)) ∧ Below w.heap.size w wr)
    (fun _ i _ => l.length - (intOf i).toNat)
  case atStart => exact ⟨0, Nat.zero_le _, rfl, by rw [List.take_zero, countB_nil]; rfl, by rw [hp_alloc_new, List.take_zero, seenArr_nil], (Below.refl _ _).alloc (Nat.le_refl _) _⟩
  case round =>
    obtain ⟨k, hk', rfl, rfl, hB, hb⟩ := hrel
    obtain ⟨hc, hf, hz⟩ := blk hB
    have hcl := countB_le n (l.take k)
    by_cases hlt : k < l.length
    · obtain ⟨x, hx⟩ : ∃ x, x = l[k] := ⟨_, rfl⟩
      have hx' : wr.cell? ⟨b, off + k, none⟩ = some (.int .i64 x) := by
        rw [hb.cell (by exact hbl), HA.out k (by simpa [ints] using hlt), hx]
        simp [ints, hlt]
      have HT := Lib.hid (take_snoc l k hlt)
      have HX := Lib.hid hx
      clear hx
      have HC := Lib.hid hc
      have HF := Lib.hid hf
      have HB := Lib.hid hB
      clear hc hf hB
      by_cases hx1 : x < 1
      · go_wp2
        go_roundw
        case rel =>
          obtain ⟨e1, e2⟩ := seen_out (n := n) (l := l.take k) (x := x) (.inl hx1)
          exact ⟨k + 1, by omega, by go_num, by rw [HT.out, ← HX.out, e2], by rw [HT.out, ← HX.out, e1]; exact HB.out, hb⟩
        case measure => simp [intOf]; omega
      · by_cases hx2 : x ≤ n
        · have hq := HC.out x.toNat
          have hfr := HF.out x.toNat
          rw [seenArr_get _ _ _ (by omega)] at hq
          have hge : 1 ≤ x := by omega
          have hx0 : 0 ≤ x ∧ x < 6 := by omega
          cases hnm : named n (l.take k) x.toNat
          · rw [hnm] at hq
            have HN := Lib.hid hnm
            clear hnm
            go_wp2
            go_roundw
            case rel =>
              obtain ⟨e1, e2⟩ := seen_once (n := n) (l := l.take k) (x := x) rfl hge hx2 h5 HN.out
              exact ⟨k + 1, by omega, by go_num, by rw [HT.out, ← HX.out, e2]; go_num, by rw [HT.out, ← HX.out, e1]; exact hp_set HB.out _ _, hb.setCell (Nat.le_refl _) _⟩
            case measure => simp [intOf]; omega
          · rw [hnm] at hq
            have HN := Lib.hid hnm
            clear hnm
            go_wp2
            go_roundw
            case rel =>
              obtain ⟨e1, e2⟩ := seen_twice (n := n) (l := l.take k) (x := x) hge hx2 HN.out
              exact ⟨k + 1, by omega, by go_num, by rw [HT.out, ← HX.out, e2], by rw [HT.out, ← HX.out, e1]; exact HB.out, hb⟩
            case measure => simp [intOf]; omega
        · go_wp2
          go_roundw
          case rel =>
            obtain ⟨e1, e2⟩ := seen_out (n := n) (l := l.take k) (x := x) (.inr (by omega))
            exact ⟨k + 1, by omega, by go_num, by rw [HT.out, ← HX.out, e2], by rw [HT.out, ← HX.out, e1]; exact HB.out, hb⟩
          case measure => simp [intOf]; omega
    · have HE : Hid (Ending.returned (.int .i64 (countB n (l.take k))) = Ending.returned (.int .i64 (countB n l))) := by rw [List.take_of_length_le (by omega)]; rfl
      clear hc hf hB hz
      go_wp2
      go_ret
      exact ⟨HE.out, hb⟩

def quorumB (n : Int) : Int := if knownB n then n / 2 + 1 else 0
theorem quorum_bad (n : Int) (w : World) (h : knownB n = false) :
    Calls Try.prog 15 #[.int .i64 n] w fun e w' => e = .returned (.int .i64 0) ∧ w = w' := by
  go_enter Try.func15, Try.ntmps15
  go_wp2_with (go_at_call 26; refine (known_any _ _).mono ?_; rintro e w' ⟨rfl, rfl⟩)
  go_ret
  exact ⟨rfl, rfl⟩
theorem quorum_gen (n : Int) (w : World) :
    Calls Try.prog 15 #[.int .i64 n] w fun e w' => e = .returned (.int .i64 (quorumB n)) ∧ w = w' := by
  cases h : knownB n
  · have := quorum_bad n w h
    simpa [quorumB, h] using this
  · have hk : 1 ≤ n ∧ n ≤ 5 := by simpa [knownB] using h
    have := quorum_any n hk.1 hk.2 w
    simpa [quorumB, h] using this

theorem count_bad (n : Int) (v : Value) (w : World) (h : knownB n = false) :
    Calls Try.prog 17 #[.int .i64 n, v] w
      fun e w' => e = .returned (.int .i64 0) ∧ Below w.heap.size w w' := by
  go_enter Try.func17, Try.ntmps17
  go_wp2_with (go_at_call 26; refine (known_any _ _).mono ?_; rintro e w' ⟨rfl, rfl⟩)
  go_ret
  exact ⟨rfl, Below.refl _ _⟩

theorem count_any (n : Int) (l : List Int) (a : Option Addr) (cap : Nat) (w : World) (hl : l.length ≤ 9223372036854775807) (hat : Lie w a (ints l)) :
    Calls Try.prog 17 #[.int .i64 n, .slice a l.length cap] w
      fun e w' => e = .returned (.int .i64 (cntG n l)) ∧ Below w.heap.size w w' := by
  cases h : knownB n
  · have := count_bad n (.slice a l.length cap) w h
    simpa [cntG, h] using this
  · have hk : 1 ≤ n ∧ n ≤ 5 := by simpa [knownB] using h
    rcases hat with h0 | ⟨b, off, rfl, hb, hc⟩
    · obtain rfl : l = [] := by simpa [ints] using h0
      have := count_nil n a cap w hk.1 hk.2
      simpa [cntG, h, countB_nil] using this
    · have := count_ok n l b off cap w hk.1 hk.2 hl hb hc
      simpa [cntG, h] using this

theorem enough_any (n : Int) (l : List Int) (a : Option Addr) (cap : Nat) (w : World) (hl : l.length ≤ 9223372036854775807) (hat : Lie w a (ints l)) :
    Calls Try.prog 19 #[.int .i64 n, .slice a l.length cap] w
      fun e w' => e = .returned (.bool (enoughB n l)) ∧ Below w.heap.size w w' := by
  cases h : knownB n
  · have HE : Hid (enoughB n l = false) := by simp [Hid, enoughB, h]
    go_enter Try.func19, Try.ntmps19
    go_wp2_with (go_at_call 26; refine (known_any _ _).mono ?_; rintro e w' ⟨rfl, rfl⟩)
    go_ret
    exact ⟨by rw [HE.out]; rfl, Below.refl _ _⟩
  · have hk : 1 ≤ n ∧ n ≤ 5 := by simpa [knownB] using h
    have HE : Hid (enoughB n l = decide (n / 2 + 1 ≤ (cntG n l : Int))) := by simp [Hid, enoughB, h]
    go_enter Try.func19, Try.ntmps19
    go_wp2_with (first | (go_at_call 26; refine (known_any _ _).mono ?_; rintro e w' ⟨rfl, rfl⟩) | (go_at_call 17; refine (count_any n l a cap _ hl hat).mono ?_; rintro e w1 ⟨rfl, hb⟩) | (go_at_call 15; refine (quorum_any n hk.1 hk.2 _).mono ?_; rintro e w' ⟨rfl, rfl⟩))
    go_ret
    exact ⟨by rw [HE.out]; rfl, hb⟩

theorem nodes_any (n : Int) (w : World) :
    Calls Try.prog 27 #[.int .i64 n] w fun e w' => e = .returned (.bool (knownB n)) ∧ w = w' := by
  by_cases h1 : 1 ≤ n
  · have hk : Hid (knownB n = decide (n ≤ 5)) := by simp [Hid, knownB, h1]
    go_enter Try.func27, Try.ntmps27
    go_wp2
    go_ret
    exact ⟨by rw [hk.out]; rfl, rfl⟩
  · have hk : Hid (knownB n = false) := by simp [Hid, knownB, h1]
    have h2 : n < 1 := by omega
    clear h1
    go_enter Try.func27, Try.ntmps27
    go_wp2
    go_ret
    exact ⟨by rw [hk.out]; rfl, rfl⟩

theorem refQuorum_bad (n : Int) (w : World) (h : knownB n = false) :
    Calls Try.prog 16 #[.int .i64 n] w fun e w' => e = .returned (.int .i64 0) ∧ w = w' := by
  go_enter Try.func16, Try.ntmps16
  go_wp2_with fail
  refine wp_loop_rounds 1 ?_
  rw [rounds_succ]
  go_wp2_with (go_at_call 27; refine (nodes_any _ _).mono ?_; rintro e w' ⟨rfl, rfl⟩)
  go_ret
  exact ⟨rfl, rfl⟩

theorem refQuorum_ok (n : Int) (w : World) (h1 : 1 ≤ n) (h5 : n ≤ 5) :
    Calls Try.prog 16 #[.int .i64 n] w fun e w' => e = .returned (.int .i64 (n / 2 + 1)) ∧ w = w' := by
  have hk : knownB n = true := by simp [knownB, h1, h5]
  go_enter Try.func16, Try.ntmps16
  go_wp2_with fail
  go_loop [3] (fun i => ∃ k : Nat, (k : Int) ≤ n / 2 + 1 ∧ i = .int .i64 k) (fun i => 10 - (intOf i).toNat)
  case atStart => exact ⟨0, by omega, rfl⟩
  case round =>
    obtain ⟨k, hk2, rfl⟩ := hrel
    by_cases hlt : 2 * (k : Int) ≤ n
    · go_wp2_with (go_at_call 27; refine (nodes_any _ _).mono ?_; rintro e w' ⟨rfl, rfl⟩)
      go_round
      case rel => exact ⟨k + 1, by omega, by go_num⟩
      case measure => simp [intOf]; omega
    · have HE : Hid ((k : Int) = n / 2 + 1) := by simp only [Hid]; omega
      go_wp2_with (go_at_call 27; refine (nodes_any _ _).mono ?_; rintro e w' ⟨rfl, rfl⟩)
      go_ret
      exact ⟨by rw [← HE.out]; rfl, rfl⟩

theorem refQuorum_gen (n : Int) (w : World) :
    Calls Try.prog 16 #[.int .i64 n] w fun e w' => e = .returned (.int .i64 (quorumB n)) ∧ w = w' := by
  cases h : knownB n
  · have := refQuorum_bad n w h
    simpa [quorumB, h] using this
  · have hk : 1 ≤ n ∧ n ≤ 5 := by simpa [knownB] using h
    have := refQuorum_ok n w hk.1 hk.2
    simpa [quorumB, h] using this

theorem refCount_bad (n : Int) (v : Value) (w : World) (h : knownB n = false) :
    Calls Try.prog 18 #[.int .i64 n, v] w fun e w' => e = .returned (.int .i64 0) ∧ w = w' := by
  go_enter Try.func18, Try.ntmps18
  go_wp2_with fail
  refine wp_loop_rounds 1 ?_
  rw [rounds_succ]
  go_wp2_with (go_at_call 27; refine (nodes_any _ _).mono ?_; rintro e w' ⟨rfl, rfl⟩)
  go_ret
  exact ⟨rfl, rfl⟩

theorem refCount_ok (n : Int) (l : List Int) (a : Option Addr) (cap : Nat) (w : World) (h1 : 1 ≤ n) (h5 : n ≤ 5) (hl : l.length ≤ 9223372036854775807) 
    (hat : ∀ i, i < l.length → ∃ b off, a = some ⟨b, off, none⟩ ∧ w.cell? ⟨b, off + i, none⟩ = (ints l)[i]?) :
    Calls Try.prog 18 #[.int .i64 n, .slice a l.length cap] w fun e w' => e = .returned (.int .i64 (countB n l)) ∧ w = w' := by
  have hk : knownB n = true := by simp [knownB, h1, h5]
  have HA := Lib.hid hat
  clear hat
  go_enter Try.func18, Try.ntmps18
  go_wp2_with fail
  go_loop [5, 6] (fun c i => ∃ m : Nat, 1 ≤ m ∧ (m : Int) ≤ n + 1 ∧ i = .int .i64 m ∧ c = .int .i64 (cntTo n l m)) (fun _ i => 10 - (intOf i).toNat)
  case atStart => exact ⟨1, by omega, by omega, rfl, by rw [cntTo_one]; rfl⟩
  case round =>
    obtain ⟨m, hm1, hm2, rfl, rfl⟩ := hrel
    have hcl := cntTo_le n l m
    by_cases hlt : (m : Int) ≤ n
    · go_wp2_with (go_at_call 27; refine (nodes_any _ _).mono ?_; rintro e w' ⟨rfl, rfl⟩)
      go_loop [7, 8] (fun d i => ∃ k : Nat, k ≤ l.length ∧ i = .int .i64 k ∧ d = .bool ((l.take k).contains (m : Int))) (fun _ i => l.length - (intOf i).toNat)
      case atStart => exact ⟨0, by omega, rfl, by simp⟩
      case round =>
        obtain ⟨k, hk1, rfl, rfl⟩ := hrel
        by_cases hlk : k < l.length
        · obtain ⟨b, off, rfl, hc⟩ := HA.out k hlk
          have HA' : Hid (∀ i, i < l.length → ∃ b' off', some (⟨b, off, none⟩ : Addr) = some ⟨b', off', none⟩ ∧ w.cell? ⟨b', off' + i, none⟩ = (ints l)[i]?) := HA.out
          clear HA
          obtain ⟨x, hx⟩ : ∃ x, x = l[k] := ⟨_, rfl⟩
          have hx' : w.cell? ⟨b, off + k, none⟩ = some (.int .i64 x) := by rw [hc, hx]; simp [ints, hlk]
          have HT : Hid ((l.take (k + 1)).contains (m : Int) = ((l.take k).contains (m : Int) || (x == (m : Int)))) := by
            simp only [Hid]; rw [take_snoc l k hlk, contains_snoc, hx]
          clear hx hc
          cases hd : (l.take k).contains (m : Int)
          · have HD := Lib.hid hd
            clear hd
            go_wp2
            go_round
            case rel => exact ⟨k + 1, by omega, by go_num, by rw [HT.out, HD.out]; rfl⟩
            case measure => simp [intOf]; omega
          · have HD := Lib.hid hd
            clear hd
            go_wp2
            go_round
            case rel => exact ⟨k + 1, by omega, by go_num, by rw [HT.out, HD.out]; rfl⟩
            case measure => simp [intOf]; omega
        · have HT : Hid ((l.take k).contains (m : Int) = named n l m) := by
            simp only [Hid]; rw [List.take_of_length_le (by omega), named_of hm1 hlt]
          have HS := Lib.hid (cntTo_succ n l m)
          rw [HT.out]
          cases hd : named n l m
          · rw [hd] at HS
            have HD := Lib.hid hd
            clear hd
            go_wp2
            go_round
            case rel => exact ⟨m + 1, by omega, by omega, by go_num, by rw [HS.out]; rfl⟩
            case measure => simp [intOf]; omega
          · rw [hd] at HS
            have HD := Lib.hid hd
            clear hd
            go_wp2
            go_round
            case rel => exact ⟨m + 1, by omega, by omega, by go_num, by rw [HS.out]; go_num⟩
            case measure => simp [intOf]; omega
    · have HE : Hid (Ending.returned (.int .i64 (cntTo n l m)) = Ending.returned (.int .i64 (countB n l))) := by rw [cntTo_end (by omega) h5 h1]; rfl
      go_wp2_with (go_at_call 27; refine (nodes_any _ _).mono ?_; rintro e w' ⟨rfl, rfl⟩)
      go_ret
      exact ⟨HE.out, rfl⟩

theorem refCount_any (n : Int) (l : List Int) (a : Option Addr) (cap : Nat) (w : World) (hl : l.length ≤ 9223372036854775807) (hat : Lie w a (ints l)) :
    Calls Try.prog 18 #[.int .i64 n, .slice a l.length cap] w fun e w' => e = .returned (.int .i64 (cntG n l)) ∧ w = w' := by
  cases h : knownB n
  · have := refCount_bad n (.slice a l.length cap) w h
    simpa [cntG, h] using this
  · have hk : 1 ≤ n ∧ n ≤ 5 := by simpa [knownB] using h
    have := refCount_ok n l a cap w hk.1 hk.2 hl (by
      intro i hi
      rcases hat with h0 | ⟨b, off, rfl, hb, hc⟩
      · obtain rfl : l = [] := by simpa [ints] using h0
        simp at hi
      · exact ⟨b, off, rfl, hc i (by simpa [ints] using hi)⟩)
    simpa [cntG, h] using this

theorem refEnough_any (n : Int) (l : List Int) (a : Option Addr) (cap : Nat) (w : World) (hl : l.length ≤ 9223372036854775807) (hat : Lie w a (ints l)) :
    Calls Try.prog 20 #[.int .i64 n, .slice a l.length cap] w
      fun e w' => e = .returned (.bool (enoughB n l)) ∧ w = w' := by
  have hcl := cntG_le n l
  cases h : knownB n
  · have HE : Hid (enoughB n l = false) := by simp [Hid, enoughB, h]
    go_enter Try.func20, Try.ntmps20
    go_wp2_with (go_at_call 27; refine (nodes_any _ _).mono ?_; rintro e w' ⟨rfl, rfl⟩)
    go_ret
    exact ⟨by rw [HE.out]; rfl, rfl⟩
  · have hk : 1 ≤ n ∧ n ≤ 5 := by simpa [knownB] using h
    have HE : Hid (enoughB n l = decide (n < 2 * (cntG n l : Int))) := by
      simp only [Hid, enoughB, h, Bool.true_and, decide_eq_decide]
      omega
    go_enter Try.func20, Try.ntmps20
    go_wp2_with (first | (go_at_call 27; refine (nodes_any _ _).mono ?_; rintro e w' ⟨rfl, rfl⟩) | (go_at_call 18; refine (refCount_any n l a cap _ hl hat).mono ?_; rintro e w1 ⟨rfl, rfl⟩))
    go_ret
    exact ⟨by rw [HE.out]; rfl, rfl⟩
end Go.Proofs.Ytjhegigcjchegaa.bal
