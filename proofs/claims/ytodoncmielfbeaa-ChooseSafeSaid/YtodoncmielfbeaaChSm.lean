/-
  ChooseSafe in memory: the members, the draws, what was chosen; what a step on one of them leaves of the others.
-/
import Derived.Test.YtodoncmielfbeaaChSf
import Derived.Test.YtodoncmielfbeaaAccH
import Derived.Test.YtodoncmielfbeaaKit4
namespace Go.Proofs.Ytodoncmielfbeaa.chsm
open Go.ChangeShapes Go.WideShapes Go.ChangeAt Go.RowKit
open Go.Proofs.Ytodoncmielfbeaa.kit Go.Proofs.Ytodoncmielfbeaa.mapkit Go.Proofs.Ytodoncmielfbeaa.byt Go.Proofs.Ytodoncmielfbeaa.own Go.Proofs.Ytodoncmielfbeaa.accd Go.Proofs.Ytodoncmielfbeaa.accb Go.Proofs.Ytodoncmielfbeaa.chd Go.Proofs.Ytodoncmielfbeaa.che Go.Proofs.Ytodoncmielfbeaa.cho Go.Proofs.Ytodoncmielfbeaa.chw Go.Proofs.Ytodoncmielfbeaa.chsf
set_option linter.unusedVariables false
set_option linter.unusedSimpArgs false
set_option maxHeartbeats 1000000
set_option maxRecDepth 100000

/-- The blocks of these types are as they were. -/
def Kept (P : TypeId → Prop) (w w' : World) : Prop := ∀ (g : Nat) (cs : Array Value) (T : TypeId), P T → w.heap[g]? = some (.cells cs T (0, 0)) → w'.heap[g]? = some (.cells cs T (0, 0))
theorem own_to {P : TypeId → Prop} {w w' : World} {base : Nat} {T : TypeId} {size n c : Nat} {a : Option Addr} {xs : List Value} (h : w.ownsRow base T size (.slice a n c) n xs) (hk : Kept P w w') (hT : P T) : w'.ownsRow base T size (.slice a n c) n xs :=
  own_kept h (fun g hg => by
    obtain ⟨cur, hcur⟩ := own_heap h g hg
    rw [hcur]; exact hk g cur _ hT hcur)
theorem ownP_to {P : TypeId → Prop} {w w' : World} {base : Nat} {q : Pt} (h : OwnP w base q) (hk : Kept P w w') (h1 : P 45) (h2 : P 5) : OwnP w' base q :=
  ⟨own_to h.row hk h1, fun v hv => own_to (h.body v hv) hk h2, h.fit, h.len, h.node⟩
theorem rowO_to {P : TypeId → Prop} {w w' : World} {base : Nat} {a : Option Addr} {c : Nat} {l : List Pt} (h : RowO w base a c l) (hk : Kept P w w') (h0 : P 36) (h1 : P 45) (h2 : P 5) : RowO w' base a c l :=
  ⟨own_to h.row hk h0, fun q hq => ownP_to (h.own q hq) hk h1 h2⟩
theorem ownE_to {P : TypeId → Prop} {w w' : World} {base : Nat} {a : Option Addr} {c : Nat} {l : List Et} (h : OwnE w base a c l) (hk : Kept P w w') (h1 : P 39) (h2 : P 5) : OwnE w' base a c l :=
  ⟨own_to h.row hk h1, fun q hq => own_to (h.body q hq) hk h2⟩
theorem acc_to {P : TypeId → Prop} {w w' : World} {base b mb : Nat} {A : AS} (h : AccIs w base b mb A) (hk : Kept P w w') (hb : w'.heap[b]? = w.heap[b]?) (hm : w'.heap[mb]? = w.heap[mb]?) (h2 : P 5) : AccIs w' base b mb A := by
  obtain ⟨vs, h, e⟩ := h
  exact ⟨vs, ⟨hb.trans h.blk, h.map.to hm, h.lo, h.ord, h.one, h.rng, h.fit, fun v hv => own_to (h.bodies v hv) hk h2⟩, e⟩
theorem acc_blk {w : World} {base b mb : Nat} {A : AS} (h : AccIs w base b mb A) : ∃ cs, w.heap[b]? = some (.cells cs 98 (0, 0)) := by
  obtain ⟨vs, h, e⟩ := h
  exact ⟨_, h.blk⟩
theorem acc_map {w : World} {base b mb : Nat} {A : AS} (h : AccIs w base b mb A) : ∃ es cl, w.heap[mb]? = some (.map es cl) := by
  obtain ⟨vs, h, e⟩ := h
  exact h.map.obj
theorem acc_lo {w : World} {base b mb : Nat} {A : AS} (h : AccIs w base b mb A) : base ≤ b ∧ base ≤ mb := by
  obtain ⟨vs, h, e⟩ := h
  exact h.lo

/-- A draw as it lies. -/
structure Tw where
  tb : Nat
  r : Int
  n : Int
  a : Option Addr
  c : Nat
  l : List Pt
  ea : Option Addr
  ec : Nat
  es : List Et
  leads : Bool
def tn (u : Tw) : Tn := ⟨u.r, u.n, u.l.map pv, u.es.map le, u.leads⟩
def Tw.cells (u : Tw) : Array Value := #[.int .i64 u.r, .int .i64 u.n, .slice u.a u.l.length u.c, .slice u.ea u.es.length u.ec, .bool u.leads]
structure TwAt (w : World) (base : Nat) (u : Tw) : Prop where
  blk : w.heap[u.tb]? = some (.cells u.cells 64 (0, 0))
  lo : base ≤ u.tb
  prs : RowO w base u.a u.c u.l
  pro : OwnE w base u.ea u.ec u.es
  fit : ∀ e ∈ u.es, e.l.length ≤ 140737488355328
def ptr (b : Nat) : Value := .pointer (some ⟨b, 0, none⟩)
/-- Two draws have nothing in common. -/
def Apart (u v : Tw) : Prop := u.tb ≠ v.tb ∧ (∀ g, u.a = some ⟨g, 0, none⟩ → v.a ≠ some ⟨g, 0, none⟩) ∧ (∀ g, u.ea = some ⟨g, 0, none⟩ → v.ea ≠ some ⟨g, 0, none⟩)
theorem Apart.symm {u v : Tw} (h : Apart u v) : Apart v u := ⟨fun e => h.1 e.symm, fun g hg hu => h.2.1 g hu hg, fun g hg hu => h.2.2 g hu hg⟩
/-- All that the law has. -/
structure Sys (w : World) (base m : Nat) (bs : List (Nat × Nat)) (As : List AS) (us : List Tw) (ma : Option Addr) (mc : Nat) (ta : Option Addr) (tc : Nat) (ca : Option Addr) (cc : Nat) (ch : List Et) : Prop where
  len : bs.length = As.length
  acc : ∀ k (h : k < bs.length) (h2 : k < As.length), AccIs w base bs[k].1 bs[k].2 As[k]
  bd : ∀ j k (hj : j < bs.length) (hk : k < bs.length), j ≠ k → bs[j].1 ≠ bs[k].1 ∧ bs[j].2 ≠ bs[k].2
  tw : ∀ u ∈ us, TwAt w base u
  td : ∀ j k (hj : j < us.length) (hk : k < us.length), j ≠ k → Apart us[j] us[k]
  cnt : us.length ≤ m ∧ ∀ u ∈ us, u.l.length ≤ m ∧ u.es.length ≤ 1024 + m
  mem : w.ownsRow base 55 1 (.slice ma bs.length mc) bs.length (bs.map fun b => ptr b.1)
  trn : w.ownsRow base 62 1 (.slice ta us.length tc) us.length (us.map fun u => ptr u.tb)
  cho : OwnE w base ca cc ch
  cfit : ∀ e ∈ ch, e.l.length ≤ 140737488355328
  cd : ∀ u ∈ us, ∀ g, ca = some ⟨g, 0, none⟩ → u.ea ≠ some ⟨g, 0, none⟩

/-- Where all that was there stays, all of it stays. -/
theorem Sys.below {w w' : World} {base m : Nat} {bs : List (Nat × Nat)} {As : List AS} {us : List Tw} {ma ta ca : Option Addr} {mc tc cc : Nat} {ch : List Et} (h : Sys w base m bs As us ma mc ta tc ca cc ch) (hb : Below w.heap.size w w') : Sys w' base m bs As us ma mc ta tc ca cc ch where
  len := h.len
  acc := fun k h1 h2 => (h.acc k h1 h2).below hb
  bd := h.bd
  tw := fun u hu => ⟨hp_step (h.tw u hu).blk hb, (h.tw u hu).lo, (h.tw u hu).prs.below hb, (h.tw u hu).pro.below hb, (h.tw u hu).fit⟩
  td := h.td
  cnt := h.cnt
  mem := own_below h.mem hb
  trn := own_below h.trn hb
  cho := h.cho.below hb
  cfit := h.cfit
  cd := h.cd
theorem Sys.more {w : World} {base m m' : Nat} {bs : List (Nat × Nat)} {As : List AS} {us : List Tw} {ma ta ca : Option Addr} {mc tc cc : Nat} {ch : List Et} (h : Sys w base m bs As us ma mc ta tc ca cc ch) (hm : m ≤ m') : Sys w base m' bs As us ma mc ta tc ca cc ch :=
  ⟨h.len, h.acc, h.bd, h.tw, h.td, ⟨by have := h.cnt.1; omega, fun u hu => by have := h.cnt.2 u hu; omega⟩, h.mem, h.trn, h.cho, h.cfit, h.cd⟩

/-- A member's step. -/
theorem Sys.acc_step {w w' : World} {base m : Nat} {bs : List (Nat × Nat)} {As : List AS} {us : List Tw} {ma ta ca : Option Addr} {mc tc cc : Nat} {ch : List Et} (h : Sys w base m bs As us ma mc ta tc ca cc ch) {k : Nat} (hk : k < bs.length) {A : AS}
    (hA : AccIs w' base bs[k].1 bs[k].2 A) (hkp : Keep (fun g => g = bs[k].1 ∨ g = bs[k].2) w w') : Sys w' base m bs (As.set k A) us ma mc ta tc ca cc ch := by
  have hold := h.acc k hk (h.len ▸ hk)
  obtain ⟨cs0, hb0⟩ := acc_blk hold
  obtain ⟨es0, cl0, hm0⟩ := acc_map hold
  have K : Kept (fun T => T ≠ 98) w w' := fun g cs T hT hg => hkp.hp hg (fun hs => by
    rcases hs with rfl | rfl
    · rw [hb0] at hg; simp only [Option.some.injEq, Obj.cells.injEq] at hg; exact hT hg.2.1.symm
    · rw [hm0] at hg; simp at hg)
  exact {
    len := by rw [List.length_set]; exact h.len
    acc := fun j h1 h2 => by
      rw [List.getElem_set]
      split
      · rename_i e; subst e; exact hA
      · rename_i e
        have h2' : j < As.length := by simpa using h2
        have hj := h.acc j h1 h2'
        obtain ⟨cs1, hb1⟩ := acc_blk hj
        obtain ⟨es1, cl1, hm1⟩ := acc_map hj
        have hd := h.bd j k h1 hk (fun e2 => e e2.symm)
        refine acc_to hj K ?_ ?_ (by decide)
        · rw [hb1]
          refine hkp.hp hb1 (fun hs => ?_)
          rcases hs with e2 | e2
          · exact hd.1 e2
          · have e2 : bs[j].1 = bs[k].2 := e2
            rw [e2, hm0] at hb1; simp at hb1
        · rw [hm1]
          refine hkp.hp hm1 (fun hs => ?_)
          rcases hs with e2 | e2
          · have e2 : bs[j].2 = bs[k].1 := e2
            rw [e2, hb0] at hm1; simp at hm1
          · exact hd.2 e2
    bd := h.bd
    tw := fun u hu => ⟨K _ _ _ (by decide) (h.tw u hu).blk, (h.tw u hu).lo, rowO_to (h.tw u hu).prs K (by decide) (by decide) (by decide), ownE_to (h.tw u hu).pro K (by decide) (by decide), (h.tw u hu).fit⟩
    td := h.td
    cnt := h.cnt
    mem := own_to h.mem K (by decide)
    trn := own_to h.trn K (by decide)
    cho := ownE_to h.cho K (by decide) (by decide)
    cfit := h.cfit
    cd := h.cd }
/-- Where a slice lies now: where it lay, or in new memory. -/
def Near (w : World) (a a' : Option Addr) : Prop := ∀ g, a' = some ⟨g, 0, none⟩ → a = some ⟨g, 0, none⟩ ∨ w.heap.size ≤ g
theorem Near.refl (w : World) (a : Option Addr) : Near w a a := fun g hg => .inl hg
/-- A draw's step. -/
theorem Sys.turn_step {w w' : World} {base m m' : Nat} {bs : List (Nat × Nat)} {As : List AS} {us : List Tw} {ma ta ca : Option Addr} {mc tc cc : Nat} {ch : List Et} (h : Sys w base m bs As us ma mc ta tc ca cc ch) {i : Nat} (hi : i < us.length) {u : Tw} (hm : m ≤ m')
    (hu : TwAt w' base u) (htb : u.tb = us[i].tb) (hna : Near w us[i].a u.a) (hne : Near w us[i].ea u.ea) (hc : u.l.length ≤ m' ∧ u.es.length ≤ 1024 + m')
    (hkp : Keep (fun g => g = us[i].tb ∨ us[i].a = some ⟨g, 0, none⟩ ∨ us[i].ea = some ⟨g, 0, none⟩) w w') : Sys w' base m' bs As (us.set i u) ma mc ta tc ca cc ch := by
  have hold := h.tw us[i] (List.getElem_mem hi)
  have K : Kept (fun T => T ≠ 64 ∧ T ≠ 36 ∧ T ≠ 39) w w' := fun g cs T hT hg => hkp.hp hg (fun hs => by
    rcases hs with rfl | hs | hs
    · rw [hold.blk] at hg; simp only [Option.some.injEq, Obj.cells.injEq] at hg; exact hT.1 hg.2.1.symm
    · exact own_ne hold.prs.row hg hT.2.1 g hs rfl
    · exact own_ne hold.pro.row hg hT.2.2 g hs rfl)
  have hset : (us.set i u).map (fun u => ptr u.tb) = us.map (fun u => ptr u.tb) := by
    rw [List.map_set, htb]
    refine List.ext_getElem (by simp) (fun j h1 h2 => ?_)
    rw [List.getElem_set]
    split
    · rename_i e; subst e; simp
    · rfl
  have hoth : ∀ j (hj : j < us.length), j ≠ i → TwAt w' base us[j] := fun j hj hji => by
    have hj2 := h.tw us[j] (List.getElem_mem hj)
    have hap := h.td j i hj hi hji
    refine ⟨hkp.hp hj2.blk (fun hs => ?_), hj2.lo, ⟨own_kept hj2.prs.row (fun g hg => ?_), fun q hq => ownP_to (hj2.prs.own q hq) K (by decide) (by decide)⟩, ⟨own_kept hj2.pro.row (fun g hg => ?_), fun q hq => own_to (hj2.pro.body q hq) K (by decide)⟩, hj2.fit⟩
    · rcases hs with hs | hs | hs
      · exact hap.1 hs
      · exact own_ne hold.prs.row hj2.blk (by decide) _ hs rfl
      · exact own_ne hold.pro.row hj2.blk (by decide) _ hs rfl
    · obtain ⟨cur, hcur⟩ := own_heap hj2.prs.row g hg
      refine hkp.block g (own_from hj2.prs.row g hg).2 (fun hs => ?_)
      rcases hs with rfl | hs | hs
      · rw [hold.blk] at hcur; simp only [Option.some.injEq, Obj.cells.injEq] at hcur; exact absurd hcur.2.1 (by decide)
      · exact hap.2.1 g hg hs
      · exact own_ne hold.pro.row hcur (by decide) g hs rfl
    · obtain ⟨cur, hcur⟩ := own_heap hj2.pro.row g hg
      refine hkp.block g (own_from hj2.pro.row g hg).2 (fun hs => ?_)
      rcases hs with rfl | hs | hs
      · rw [hold.blk] at hcur; simp only [Option.some.injEq, Obj.cells.injEq] at hcur; exact absurd hcur.2.1 (by decide)
      · exact own_ne hold.prs.row hcur (by decide) g hs rfl
      · exact hap.2.2 g hg hs
  have hnew : ∀ j (hj : j < us.length), j ≠ i → Apart us[j] u := fun j hj hji => by
    have hj2 := h.tw us[j] (List.getElem_mem hj)
    have hap := h.td j i hj hi hji
    refine ⟨by rw [htb]; exact hap.1, fun g hg hu2 => ?_, fun g hg hu2 => ?_⟩
    · rcases hna g hu2 with e | e
      · exact hap.2.1 g hg e
      · have := (own_from hj2.prs.row g hg).2; omega
    · rcases hne g hu2 with e | e
      · exact hap.2.2 g hg e
      · have := (own_from hj2.pro.row g hg).2; omega
  have hcho : ∀ g, ca = some ⟨g, 0, none⟩ → w'.heap[g]? = w.heap[g]? := fun g hg => by
    obtain ⟨cur, hcur⟩ := own_heap h.cho.row g hg
    refine hkp.block g (own_from h.cho.row g hg).2 (fun hs => ?_)
    rcases hs with rfl | hs | hs
    · rw [hold.blk] at hcur; simp only [Option.some.injEq, Obj.cells.injEq] at hcur; exact absurd hcur.2.1 (by decide)
    · exact own_ne hold.prs.row hcur (by decide) g hs rfl
    · exact h.cd us[i] (List.getElem_mem hi) g hg hs
  have hmem : ∀ {v : Tw}, v ∈ us.set i u → v = u ∨ ∃ j, ∃ hj : j < us.length, j ≠ i ∧ v = us[j] := fun {v} hv => by
    obtain ⟨j, hj, rfl⟩ := List.getElem_of_mem hv
    rw [List.getElem_set]
    split
    · exact .inl rfl
    · rename_i e; exact .inr ⟨j, by simpa using hj, fun e2 => e e2.symm, rfl⟩
  exact {
    len := h.len
    acc := fun j h1 h2 => by
      have hj := h.acc j h1 h2
      obtain ⟨cs1, hb1⟩ := acc_blk hj
      obtain ⟨es1, cl1, hm1⟩ := acc_map hj
      refine acc_to hj K (by rw [hb1]; exact K _ _ _ (by decide) hb1) ?_ (by decide)
      rw [hm1]
      refine hkp.hp hm1 (fun hs => ?_)
      rcases hs with e2 | e2 | e2
      · rw [e2, hold.blk] at hm1; simp at hm1
      · obtain ⟨cur, hcur⟩ := own_heap hold.prs.row _ e2
        rw [hcur] at hm1; simp at hm1
      · obtain ⟨cur, hcur⟩ := own_heap hold.pro.row _ e2
        rw [hcur] at hm1; simp at hm1
    bd := h.bd
    tw := fun v hv => by
      rcases hmem hv with rfl | ⟨j, hj, hji, rfl⟩
      · exact hu
      · exact hoth j hj hji
    td := fun j k hj hk hjk => by
      have hj' : j < us.length := by simpa using hj
      have hk' : k < us.length := by simpa using hk
      rw [List.getElem_set, List.getElem_set]
      by_cases e1 : i = j
      · subst e1
        rw [if_pos rfl, if_neg hjk]
        exact (hnew k hk' (fun e => hjk e.symm)).symm
      · rw [if_neg e1]
        by_cases e2 : i = k
        · subst e2
          rw [if_pos rfl]
          exact hnew j hj' (fun e => e1 e.symm)
        · rw [if_neg e2]
          exact h.td j k hj' hk' hjk
    cnt := ⟨by rw [List.length_set]; have := h.cnt.1; omega, fun v hv => by
      rcases hmem hv with rfl | ⟨j, hj, hji, rfl⟩
      · exact hc
      · have := h.cnt.2 us[j] (List.getElem_mem hj); omega⟩
    mem := own_to h.mem K (by decide)
    trn := by rw [List.length_set, hset]; exact own_to h.trn K (by decide)
    cho := ⟨own_kept h.cho.row hcho, fun q hq => own_to (h.cho.body q hq) K (by decide)⟩
    cfit := h.cfit
    cd := fun v hv g hg => by
      rcases hmem hv with rfl | ⟨j, hj, hji, rfl⟩
      · intro he
        rcases hne g he with e | e
        · exact h.cd us[i] (List.getElem_mem hi) g hg e
        · have := (own_from h.cho.row g hg).2; omega
      · exact h.cd us[j] (List.getElem_mem hj) g hg }

/-- A new draw. -/
theorem Sys.draw_step {w w' : World} {base m m' : Nat} {bs : List (Nat × Nat)} {As : List AS} {us : List Tw} {ma ta ca ta' : Option Addr} {mc tc cc tc' : Nat} {ch : List Et} (h : Sys w base m bs As us ma mc ta tc ca cc ch) {u : Tw} (hm : m + 1 ≤ m')
    (hu : TwAt w' base u) (htb : w.heap.size ≤ u.tb) (ha : u.a = none ∧ u.ea = none ∧ u.l = [] ∧ u.es = []) (hkp : Keep (fun g => ta = some ⟨g, 0, none⟩) w w')
    (htrn : w'.ownsRow base 62 1 (.slice ta' (us.length + 1) tc') (us.length + 1) (us.map (fun u => ptr u.tb) ++ [ptr u.tb])) : Sys w' base m' bs As (us ++ [u]) ma mc ta' tc' ca cc ch := by
  have K : Kept (fun T => T ≠ 62) w w' := fun g cs T hT hg => hkp.hp hg (fun hs => own_ne h.trn hg hT g hs rfl)
  have ex : ∀ {v : Tw}, v ∈ us ++ [u] → v ∈ us ∨ v = u := fun hv => by simpa using hv
  have hap : ∀ j (hj : j < us.length), Apart us[j] u := fun j hj => by
    have h1 := (kit.blk (h.tw us[j] (List.getElem_mem hj)).blk).2.2
    refine ⟨by omega, fun g _ e => ?_, fun g _ e => ?_⟩
    · rw [ha.1] at e; simp at e
    · rw [ha.2.1] at e; simp at e
  exact {
    len := h.len
    acc := fun j h1 h2 => by
      have hj := h.acc j h1 h2
      obtain ⟨cs1, hb1⟩ := acc_blk hj
      obtain ⟨es1, cl1, hm1⟩ := acc_map hj
      refine acc_to hj K (by rw [hb1]; exact K _ _ _ (by decide) hb1) ?_ (by decide)
      rw [hm1]
      refine hkp.hp hm1 (fun hs => ?_)
      obtain ⟨cur, hcur⟩ := own_heap h.trn _ hs
      rw [hcur] at hm1; simp at hm1
    bd := h.bd
    tw := fun v hv => by
      rcases ex hv with hv | rfl
      · exact ⟨K _ _ _ (by decide) (h.tw v hv).blk, (h.tw v hv).lo, rowO_to (h.tw v hv).prs K (by decide) (by decide) (by decide), ownE_to (h.tw v hv).pro K (by decide) (by decide), (h.tw v hv).fit⟩
      · exact hu
    td := fun j k hj hk hjk => by
      rw [List.length_append, List.length_singleton] at hj hk
      by_cases h1 : j < us.length
      · rw [List.getElem_append_left h1]
        by_cases h2 : k < us.length
        · rw [List.getElem_append_left h2]; exact h.td j k h1 h2 hjk
        · have : k = us.length := by omega
          subst this
          rw [List.getElem_append_right (Nat.le_refl _)]
          simpa using hap j h1
      · have : j = us.length := by omega
        subst this
        have h2 : k < us.length := by omega
        rw [List.getElem_append_right (Nat.le_refl _), List.getElem_append_left h2]
        simpa using (hap k h2).symm
    cnt := ⟨by rw [List.length_append, List.length_singleton]; have := h.cnt.1; omega, fun v hv => by
      rcases ex hv with hv | rfl
      · have := h.cnt.2 v hv; omega
      · rw [ha.2.2.1, ha.2.2.2]; simp⟩
    mem := own_to h.mem K (by decide)
    trn := by rw [List.length_append, List.length_singleton, List.map_append, List.map_singleton]; exact htrn
    cho := ownE_to h.cho K (by decide) (by decide)
    cfit := h.cfit
    cd := fun v hv g hg => by
      rcases ex hv with hv | rfl
      · exact h.cd v hv g hg
      · rw [ha.2.1]; simp }
/-- One more is chosen. -/
theorem Sys.cho_step {w w' : World} {base m : Nat} {bs : List (Nat × Nat)} {As : List AS} {us : List Tw} {ma ta ca ca' : Option Addr} {mc tc cc cc' : Nat} {ch : List Et} (h : Sys w base m bs As us ma mc ta tc ca cc ch) {e : Et}
    (hkp : Keep (fun g => ca = some ⟨g, 0, none⟩) w w') (hcho : OwnE w' base ca' cc' (ch ++ [e])) (hn : Near w ca ca') (hfit : e.l.length ≤ 140737488355328) : Sys w' base m bs As us ma mc ta tc ca' cc' (ch ++ [e]) := by
  have K : Kept (fun T => T ≠ 39) w w' := fun g cs T hT hg => hkp.hp hg (fun hs => own_ne h.cho.row hg hT g hs rfl)
  exact {
    len := h.len
    acc := fun j h1 h2 => by
      have hj := h.acc j h1 h2
      obtain ⟨cs1, hb1⟩ := acc_blk hj
      obtain ⟨es1, cl1, hm1⟩ := acc_map hj
      refine acc_to hj K (by rw [hb1]; exact K _ _ _ (by decide) hb1) ?_ (by decide)
      rw [hm1]
      refine hkp.hp hm1 (fun hs => ?_)
      obtain ⟨cur, hcur⟩ := own_heap h.cho.row _ hs
      rw [hcur] at hm1; simp at hm1
    bd := h.bd
    tw := fun v hv => ⟨K _ _ _ (by decide) (h.tw v hv).blk, (h.tw v hv).lo, rowO_to (h.tw v hv).prs K (by decide) (by decide) (by decide), ⟨own_kept (h.tw v hv).pro.row (fun g hg => hkp.block g (own_from (h.tw v hv).pro.row g hg).2 (fun hs => h.cd v hv g hs hg)), fun q hq => own_to ((h.tw v hv).pro.body q hq) K (by decide)⟩, (h.tw v hv).fit⟩
    td := h.td
    cnt := h.cnt
    mem := own_to h.mem K (by decide)
    trn := own_to h.trn K (by decide)
    cho := hcho
    cfit := fun x hx => by
      rcases List.mem_append.1 hx with hx | hx
      · exact h.cfit x hx
      · rw [List.mem_singleton.1 hx]; exact hfit
    cd := fun v hv g hg he => by
      rcases hn g hg with e1 | e1
      · exact h.cd v hv g e1 he
      · have := (own_from (h.tw v hv).pro.row g he).2; omega }
/-- One more member. -/
theorem Sys.new_step {w w' : World} {base m : Nat} {bs : List (Nat × Nat)} {As : List AS} {ma ma' : Option Addr} {mc mc' : Nat} (h : Sys w base m bs As [] ma mc none 0 none 0 []) {b mb : Nat} {A : AS}
    (hA : AccIs w' base b mb A) (hb : w.heap.size ≤ b ∧ w.heap.size ≤ mb) (hkp : Keep (fun g => ma = some ⟨g, 0, none⟩) w w')
    (hmem : w'.ownsRow base 55 1 (.slice ma' (bs.length + 1) mc') (bs.length + 1) (bs.map (fun b => ptr b.1) ++ [ptr b])) : Sys w' base m (bs ++ [(b, mb)]) (As ++ [A]) [] ma' mc' none 0 none 0 [] := by
  have K : Kept (fun T => T ≠ 55) w w' := fun g cs T hT hg => hkp.hp hg (fun hs => own_ne h.mem hg hT g hs rfl)
  have hlt : ∀ j (hj : j < bs.length), bs[j].1 < w.heap.size ∧ bs[j].2 < w.heap.size := fun j hj => by
    have hj2 := h.acc j hj (h.len ▸ hj)
    obtain ⟨cs1, hb1⟩ := acc_blk hj2
    obtain ⟨es1, cl1, hm1⟩ := acc_map hj2
    exact ⟨(kit.blk hb1).2.2, (Array.getElem?_eq_some_iff.1 hm1).1⟩
  exact {
    len := by rw [List.length_append, List.length_append, h.len]; rfl
    acc := fun j h1 h2 => by
      rw [List.length_append, List.length_singleton] at h1
      by_cases hj : j < bs.length
      · have hj2 := h.acc j hj (h.len ▸ hj)
        have e2 : (As ++ [A])[j]'h2 = As[j]'(h.len ▸ hj) := List.getElem_append_left _
        rw [List.getElem_append_left hj, e2]
        obtain ⟨cs1, hb1⟩ := acc_blk hj2
        obtain ⟨es1, cl1, hm1⟩ := acc_map hj2
        refine acc_to hj2 K (by rw [hb1]; exact K _ _ _ (by decide) hb1) ?_ (by decide)
        rw [hm1]
        refine hkp.hp hm1 (fun hs => ?_)
        obtain ⟨cur, hcur⟩ := own_heap h.mem _ hs
        rw [hcur] at hm1; simp at hm1
      · have : j = bs.length := by omega
        subst this
        have e1 : (bs ++ [(b, mb)])[bs.length]'(by simp) = (b, mb) := by simp
        have e2 : (As ++ [A])[bs.length]'h2 = A := by
          rw [List.getElem_append_right (by rw [h.len]; exact Nat.le_refl _)]
          simp
        rw [e1, e2]; exact hA
    bd := fun j k hj hk hjk => by
      rw [List.length_append, List.length_singleton] at hj hk
      by_cases h1 : j < bs.length
      · rw [List.getElem_append_left h1]
        by_cases h2 : k < bs.length
        · rw [List.getElem_append_left h2]; exact h.bd j k h1 h2 hjk
        · have : k = bs.length := by omega
          subst this
          have := hlt j h1
          rw [List.getElem_append_right (Nat.le_refl _)]
          simp only [Nat.sub_self, List.getElem_cons_zero]
          omega
      · have : j = bs.length := by omega
        subst this
        have h2 : k < bs.length := by omega
        have := hlt k h2
        rw [List.getElem_append_right (Nat.le_refl _), List.getElem_append_left h2]
        simp only [Nat.sub_self, List.getElem_cons_zero]
        omega
    tw := by simp
    td := fun j k hj => absurd hj (by simp)
    cnt := ⟨Nat.zero_le _, by simp⟩
    mem := by rw [List.length_append, List.length_singleton, List.map_append, List.map_singleton]; exact hmem
    trn := World.ownsRow_nil _ _ _ _
    cho := ownE_nil _ _
    cfit := by simp
    cd := by simp }
theorem sys_start (w : World) (base m : Nat) : Sys w base m [] [] [] none 0 none 0 none 0 [] where
  len := rfl
  acc := fun k h => absurd h (by simp)
  bd := fun j k h => absurd h (by simp)
  tw := by simp
  td := fun j k h => absurd h (by simp)
  cnt := ⟨Nat.zero_le _, by simp⟩
  mem := World.ownsRow_nil _ _ _ _
  trn := World.ownsRow_nil _ _ _ _
  cho := ownE_nil _ _
  cfit := by simp
  cd := by simp

/-- What an append to a row changes. -/
theorem keep_row {w w1 w2 : World} {base : Nat} {T : TypeId} {size n c : Nat} {a : Option Addr} {xs : List Value} (hb : Below w.heap.size w w1) (ho : w1.ownsRow base T size (.slice a n c) n xs) (hg : w1.grownBy w2 (Value.slice a n c).ownBlock) : Keep (fun g => a = some ⟨g, 0, none⟩) w w2 :=
  ⟨hg.os.trans hb.os, hg.tape.trans hb.tape, hg.output.trans hb.output, Nat.le_trans hb.size hg.size, fun k hk hs => (hg.block k (Nat.lt_of_lt_of_le hk hb.size) (fun e => hs (own_block ho k e.symm))).trans (hb.block k hk)⟩
theorem acc_row {w w' : World} {base base' b mb : Nat} {A : AS} {T : TypeId} {size n c : Nat} {a : Option Addr} {xs : List Value} (h : AccIs w base b mb A) (ho : w.ownsRow base' T size (.slice a n c) n xs) (hT : T ≠ 98 ∧ T ≠ 5) (hk : Keep (fun g => a = some ⟨g, 0, none⟩) w w') : AccIs w' base b mb A := by
  obtain ⟨cs1, hb1⟩ := acc_blk h
  obtain ⟨es1, cl1, hm1⟩ := acc_map h
  have K : Kept (fun X => X ≠ T) w w' := fun g cs X hX hg => hk.hp hg (fun hs => own_ne ho hg hX g hs rfl)
  refine acc_to h K (by rw [hb1]; exact K _ _ _ (fun e => hT.1 e.symm) hb1) ?_ (fun e => hT.2 e.symm)
  rw [hm1]
  refine hk.hp hm1 (fun hs => ?_)
  obtain ⟨cur, hcur⟩ := own_heap ho _ hs
  rw [hcur] at hm1; simp at hm1
theorem acc_mono {w : World} {base base' b mb : Nat} {A : AS} (h : AccIs w base b mb A) (hb : base' ≤ base) : AccIs w base' b mb A := by
  obtain ⟨vs, h, e⟩ := h
  exact ⟨vs, ⟨h.blk, h.map, ⟨by have := h.lo; omega, by have := h.lo; omega⟩, h.ord, h.one, h.rng, h.fit, fun v hv => own_mono (h.bodies v hv) hb⟩, e⟩
theorem lie_one (w : World) (a : Value) (T : TypeId) : Lie (w.alloc (.cells #[a] T)) (some ⟨w.heap.size, 0, none⟩) [a] := by
  refine .inr ⟨w.heap.size, 0, rfl, by rw [size_new]; omega, fun i hi => ?_⟩
  have hi : i < 1 := hi
  have : i = 0 := by omega
  subst this
  rw [(kit.blk (hp_alloc_new w (.cells #[a] T))).1]
  rfl
/-- Below of what a row of new memory changes. -/
theorem keep_below {w0 w w' : World} {S : Nat → Prop} (hb : Below w0.heap.size w0 w) (hk : Keep S w w') (hS : ∀ g, g < w0.heap.size → ¬ S g) : Below w0.heap.size w0 w' :=
  ⟨hk.os.trans hb.os, hk.tape.trans hb.tape, hk.output.trans hb.output, Nat.le_trans hb.size hk.size, fun k hk2 => (hk.block k (Nat.lt_of_lt_of_le hk2 hb.size) (hS k hk2)).trans (hb.block k hk2)⟩
end Go.Proofs.Ytodoncmielfbeaa.chsm
