/- Texts of this claim, one behind the other: BuD, BuW, BusN, BuG, BuH. -/
import Derived.Test.YtfpofaniicegaaaGreatJWalkForeign15
import Derived.Maps.RangeWalk
import Derived.BigQuiet
import Derived.Deep.QuietTactic
/- The walk of a machine's Clone. -/
set_option linter.unusedVariables false
set_option linter.unusedSimpArgs false
namespace Go.Proofs.YtfpofaniicegaaaGreat
open Go.RowKit
open S64
namespace Bu
/-- what holds while a machine is cloned; lf: which pages are still to come -/
structure CloneI (w : World) (M : PM) (pm : Nat → Option Nat) (n1 n2 : Nat) (Ao : Option Addr) (no co : Nat) (g mb : Nat) (E1 E2 : Option Addr) (d1 d2 : Nat) (pn : Nat → Option Nat) (lf : Nat → Bool) (wr : World) : Prop where
  row : Row wr g 89 [.int .i64 0, .int .i64 0, .int .i64 0, .slice E1 n1 d1, .slice E2 n2 d2, .slice Ao no co, .map (some mb)]
  own1 : BR.Own wr w.heap.size E1 n1 d1 M.rams
  own2 : BR.Own wr w.heap.size E2 n2 d2 M.devs
  cap1 : n1 ≤ d1 ∧ d1 ≤ 9223372036854775807
  cap2 : n2 ≤ d2 ∧ d2 ≤ 9223372036854775807
  map : MapAt wr mb pn
  leaf : ∀ k p, pn k = some p → Row wr p 156 (leafRow M.mem k) ∧ w.heap.size ≤ p
  inj : ∀ k k' p, pn k = some p → pn k' = some p → k = k'
  come : ∀ k, (pn k).isSome = ((pm k).isSome && !lf k)
  bel : Below w.heap.size w wr
  geg : w.heap.size ≤ g
  gem : w.heap.size ≤ mb
theorem ptrD_inj {a b : Option Nat} (h : ptrD a = ptrD b) : a = b := by
  cases a <;> cases b
  · rfl
  · cases h
  · cases h
  · simp only [ptrD] at h
    injection h with h; injection h with _ h
    rw [Int.ofNat.inj h]
theorem ptrR_form {v : Value} {y : DU × List MemPlace} (h : ptrR v = some y) : ∃ c : Option Nat, v = ptrV c ∧ y = (ptrD c, []) := by
  unfold ptrR at h
  split at h
  · injection h with h; exact ⟨none, rfl, h.symm⟩
  · rename_i p
    injection h with h; exact ⟨some p, rfl, h.symm⟩
  · cases h
theorem kl_form {key : Value} {l : Lit} (h : keyOf Tryz.prog 31 key = some l) : ∃ k : Nat, k ≤ TOP ∧ key = .int .u64 (k : Nat) ∧ l = kl k := by
  obtain ⟨x, rfl, rfl, hw⟩ := Maps.keyOf_int_inv Tryz.underlying31 h
  have hb := bounds_u64 hw
  refine ⟨x.toNat, by unfold TOP; omega, ?_, ?_⟩
  · rw [show ((x.toNat : Nat) : Int) = x by omega]
  · unfold kl; rw [show ((x.toNat : Nat) : Int) = x by omega]
theorem kl_same (q k : Nat) : (kl q).sameKey (kl k) = decide (q = k) := by
  by_cases e : q = k
  · subst e; simp [kl, Lit.sameKey]
  · rw [Maps.sameKey_ne (kl_ne e), decide_eq_false e]
theorem ranges_has {w : World} {b r n cnt : Nat} {D : DU} {left : Lit → Bool} (h : w.ranges Tryz.prog 31 ptrR b r n D left cnt) {k : Nat} (hl : left (kl k) = true) : Maps.has D (kl k) = true := by
  obtain ⟨es, clock, since, seen, c0, hb, F, hs, hD, hit, h1, h2, h3, h4, h5⟩ := h
  obtain ⟨x, hx, he⟩ := h4 _ hl
  rw [hD, Maps.has_eq, List.any_eq_true]
  exact ⟨_, mem_sorted.2 (List.mem_map.2 ⟨x, hx, rfl⟩), by rw [he, kl_same]; simp⟩
/-- the pages are all there -/
theorem CloneI.mach {Z R : Nat → Prop} {w : World} {g0 : Nat} {M : PM} {A1 A2 Ao : Option Addr} {c1 c2 no co b : Nat} {pm : Nat → Option Nat} {sp : Sp.S} (hm : MachAt Z R w g0 M A1 A2 Ao c1 c2 no co b pm sp)
    {n1 n2 g mb d1 d2 : Nat} {E1 E2 : Option Addr} {pn : Nat → Option Nat} {lf : Nat → Bool} {wr : World} (h : CloneI w M pm n1 n2 Ao no co g mb E1 E2 d1 d2 pn lf wr) (h1 : M.rams.length = n1) (h2 : M.devs.length = n2) (hl : ∀ k, lf k = false) :
    Mach (fun k => k = g ∨ k = mb ∨ ∃ q, pn q = some k) (fun k => (∃ ad, E1 = some ad ∧ ad.block = k) ∨ (∃ ad, E2 = some ad ∧ ad.block = k) ∨ (R k ∧ k < w.heap.size)) wr g { M with loads := 0, stores := 0, strays := 0 } := by
  subst h1; subst h2
  have hmap : ∃ es clock, wr.heap[mb]? = some (.map es clock) := by
    obtain ⟨⟨D, n, ⟨es, clock, hb, _⟩, _⟩, _⟩ := h.map
    exact ⟨es, clock, hb⟩
  have hiff : ∀ k, (pn k).isSome = (pm k).isSome := fun k => by rw [h.come, hl k]; simp
  refine ⟨E1, E2, Ao, d1, d2, no, co, mb, pn, sp, ⟨h.row, .inl rfl, .inr (.inl rfl), ⟨h.own1.isS, h.cap1.1, h.cap1.2, fun ad e _ => .inl ⟨ad, e, rfl⟩⟩, ⟨h.own2.isS, h.cap2.1, h.cap2.2, fun ad e _ => .inr (.inl ⟨ad, e, rfl⟩)⟩, ?_, hm.nrm, hm.has, hm.lim, h.map, fun k p hp => ?_, h.inj, fun k hk => ?_, hm.byte, ?_⟩⟩
  · have := hm.tight.lo.chg (ChgP.of_below (Z := fun _ => False) h.bel) (fun _ _ h => h)
    exact this.mono (fun k hk => .inr (.inr hk))
  · obtain ⟨l1, l2⟩ := h.leaf k p hp
    refine ⟨l1, .inr (.inr ⟨k, hp⟩), (hm.some_iff k).1 ?_⟩
    rw [← hiff, hp]; rfl
  · refine hm.zero k ?_
    have := hiff k
    rw [hk] at this
    cases hpk : pm k with
    | none => rfl
    | some p => rw [hpk] at this; cases this
  · intro k hk hr
    have hge : w.heap.size ≤ k := by
      rcases hk with rfl | rfl | ⟨q, hq⟩
      · exact h.geg
      · exact h.gem
      · exact (h.leaf q k hq).2
    rcases hr with hr | hr | hr
    · obtain ⟨ad, rfl, rfl⟩ := hr
      obtain ⟨cur, hb⟩ := own_blk2 h.own1.1
      rcases hk with rfl | rfl | ⟨q, hq⟩
      · have := hb.symm.trans h.row
        injection this with this; injection this with _ this _
        exact absurd this (by decide)
      · obtain ⟨es, clock, h'⟩ := hmap
        have := hb.symm.trans h'
        cases this
      · have := hb.symm.trans (h.leaf q _ hq).1
        injection this with this; injection this with _ this _
        exact absurd this (by decide)
    · obtain ⟨ad, rfl, rfl⟩ := hr
      obtain ⟨cur, hb⟩ := own_blk2 h.own2.1
      rcases hk with rfl | rfl | ⟨q, hq⟩
      · have := hb.symm.trans h.row
        injection this with this; injection this with _ this _
        exact absurd this (by decide)
      · obtain ⟨es, clock, h'⟩ := hmap
        have := hb.symm.trans h'
        cases this
      · have := hb.symm.trans (h.leaf q _ hq).1
        injection this with this; injection this with _ this _
        exact absurd this (by decide)
    · have := hr.2; omega
/-- what Clone tells -/
def ClonedM (R : Nat → Prop) (w : World) (M : PM) (e : Ending) (w' : World) : Prop :=
  Below w.heap.size w w' ∧ ∃ g Z' R', e = .returned (.pointer (some ⟨g, 0, none⟩)) ∧ Mach Z' R' w' g { M with loads := 0, stores := 0, strays := 0 } ∧ (∀ k, Z' k → w.heap.size ≤ k ∧ k < w'.heap.size) ∧ ∀ k, R' k → (R k ∧ k < w.heap.size) ∨ (w.heap.size ≤ k ∧ k < w'.heap.size)
theorem CloneI.said {Z R : Nat → Prop} {w : World} {g0 : Nat} {M : PM} {A1 A2 Ao : Option Addr} {c1 c2 no co b : Nat} {pm : Nat → Option Nat} {sp : Sp.S} (hm : MachAt Z R w g0 M A1 A2 Ao c1 c2 no co b pm sp)
    {n1 n2 g mb d1 d2 : Nat} {E1 E2 : Option Addr} {pn : Nat → Option Nat} {lf : Nat → Bool} {wr : World} (h : CloneI w M pm n1 n2 Ao no co g mb E1 E2 d1 d2 pn lf wr) (h1 : M.rams.length = n1) (h2 : M.devs.length = n2) (hl : ∀ k, lf k = false) :
    ClonedM R w M (.returned (.pointer (some ⟨g, 0, none⟩))) wr := by
  refine ⟨h.bel, g, _, _, rfl, h.mach hm h1 h2 hl, fun k hk => ?_, fun k hk => ?_⟩
  · rcases hk with rfl | rfl | ⟨q, hq⟩
    · exact ⟨h.geg, h.row.lt⟩
    · exact ⟨h.gem, h.map.lt⟩
    · exact ⟨(h.leaf q k hq).2, (h.leaf q k hq).1.lt⟩
  · rcases hk with ⟨ad, e, rfl⟩ | ⟨ad, e, rfl⟩ | hk
    · exact .inr (h.own1.adr ad e)
    · exact .inr (h.own2.adr ad e)
    · exact .inl hk
/-- new blocks, or the iterator turned -/
theorem CloneI.kept {w : World} {M : PM} {pm : Nat → Option Nat} {n1 n2 : Nat} {Ao : Option Addr} {no co g mb : Nat} {E1 E2 : Option Addr} {d1 d2 : Nat} {pn : Nat → Option Nat} {lf : Nat → Bool} {wr wx : World} {r : Nat} {o : Obj} (h : CloneI w M pm n1 n2 Ao no co g mb E1 E2 d1 d2 pn lf wr) (hc : ChgP (fun k => k = r) wr wx) (hr : w.heap.size ≤ r) (ho : wr.heap.size ≤ r ∨ wr.heap[r]? = some o) (hn1 : ∀ cs t z, o ≠ .cells cs t z) (hn2 : ∀ es c, o ≠ .map es c) :
    CloneI w M pm n1 n2 Ao no co g mb E1 E2 d1 d2 pn lf wx := by
  have hne : ∀ k cs t z, wr.heap[k]? = some (.cells cs t z) → ¬ k = r := fun k cs t z h1 e => by
    subst e
    rcases ho with ho | ho
    · rw [Array.getElem?_eq_none ho] at h1; cases h1
    · rw [ho] at h1; injection h1 with h1; exact hn1 _ _ _ h1
  have hnm : mb ≠ r := by
    rintro rfl
    obtain ⟨⟨D, n, ⟨es, clock, hb, _⟩, _⟩, _⟩ := h.map
    rcases ho with ho | ho
    · rw [Array.getElem?_eq_none ho] at hb; cases hb
    · rw [ho] at hb; injection hb with hb; exact hn2 _ _ hb
  have hown : ∀ {A n c bs}, BR.Own wr w.heap.size A n c bs → BR.Own wx w.heap.size A n c bs := fun {A n c bs} ho' => ⟨by
    have hcc : Chg [r] wr wx := ⟨hc.os, hc.tape, hc.output, hc.size, fun k hk hnk => hc.block k hk (fun e => hnk (by simp [e]))⟩
    refine owns_chgr ho'.1 hcc (fun k hk hmem => ?_)
    obtain ⟨cur, hb⟩ := own_blkr ho'.1 k hk
    exact hne k _ _ _ hb (by simpa using hmem), ho'.2⟩
  exact ⟨hc.row h.row (hne _ _ _ _ h.row), hown h.own1, hown h.own2, h.cap1, h.cap2, h.map.same (hc.block mb h.map.lt hnm), fun k p hp => ⟨hc.row (h.leaf k p hp).1 (hne _ _ _ _ (h.leaf k p hp).1), (h.leaf k p hp).2⟩, h.inj, h.come, h.bel.trans (hc.below h.bel.size (fun x hx => by subst hx; exact hr)), h.geg, h.gem⟩
/-- a page has been cloned -/
theorem CloneI.put {w : World} {M : PM} {pm : Nat → Option Nat} {n1 n2 : Nat} {Ao : Option Addr} {no co g mb : Nat} {E1 E2 : Option Addr} {d1 d2 : Nat} {pn : Nat → Option Nat} {lf : Nat → Bool} {w6 w7 : World} {k q : Nat} {V : List Value} (h : CloneI w M pm n1 n2 Ao no co g mb E1 E2 d1 d2 pn lf w6)
    (hq : Row w6 q 156 V) (hV : V = leafRow M.mem k) (hqg : w.heap.size ≤ q) (hm7 : MapAt w7 mb (upd pn k (some q))) (ht : w6.mapTurned w7 mb) (hk : (pm k).isSome = true) (hfr : ∀ k', pn k' ≠ some q) :
    CloneI w M pm n1 n2 Ao no co g mb E1 E2 d1 d2 (upd pn k (some q)) (fun z => lf z && !decide (z = k)) w7 := by
  have hc := ChgP.turned ht
  have hown : ∀ {A n c bs}, BR.Own w6 w.heap.size A n c bs → BR.Own w7 w.heap.size A n c bs := fun {A n c bs} ho' => ⟨by
    have hcc : Chg [mb] w6 w7 := ⟨hc.os, hc.tape, hc.output, hc.size, fun k hk hnk => hc.block k hk (fun e => hnk (by simp [e]))⟩
    refine owns_chgr ho'.1 hcc (fun k hk hmem => ?_)
    obtain ⟨cur, hb⟩ := own_blkr ho'.1 k hk
    have e : k = mb := by simpa using hmem
    subst e
    obtain ⟨⟨_, _, ⟨_, _, hb', _⟩, _⟩, _⟩ := h.map
    have := hb.symm.trans hb'
    exact (by cases this), ho'.2⟩
  refine ⟨hc.row h.row (Row.ne_map h.row h.map), hown h.own1, hown h.own2, h.cap1, h.cap2, hm7, fun z p hp => ?_, fun z z' p h1 h2 => ?_, fun z => ?_, h.bel.trans (hc.below h.bel.size (fun x hx => by subst hx; exact h.gem)), h.geg, h.gem⟩
  · by_cases e : z = k
    · subst e
      rw [upd_same] at hp; injection hp with hp; subst hp
      exact ⟨by rw [← hV]; exact hc.row hq (Row.ne_map hq h.map), hqg⟩
    · rw [upd_other _ _ e] at hp
      obtain ⟨l1, l2⟩ := h.leaf z p hp
      exact ⟨hc.row l1 (Row.ne_map l1 h.map), l2⟩
  · by_cases e : z = k
    · by_cases e' : z' = k
      · rw [e, e']
      · rw [upd_other _ _ e'] at h2
        rw [e, upd_same] at h1; injection h1 with h1; subst h1
        exact absurd h2 (hfr z')
    · by_cases e' : z' = k
      · rw [upd_other _ _ e] at h1
        rw [e', upd_same] at h2; injection h2 with h2; subst h2
        exact absurd h1 (hfr z)
      · rw [upd_other _ _ e] at h1; rw [upd_other _ _ e'] at h2
        exact h.inj z z' p h1 h2
  · by_cases e : z = k
    · subst e
      rw [upd_same, hk, decide_eq_true rfl]; simp
    · rw [upd_other _ _ e, h.come, decide_eq_false e]; simp
theorem run_storeCells_row2 {P : Program} {w : World} {g : Nat} {ty t : TypeId} {cs V : List Value} (h : Row w g t cs) (hi : (P.info? ty).map (·.size) = some V.length) (ho : cs.length = V.length) (h1 : ∀ v ∈ V, v.oneCell' = true) :
    (storeCells ⟨g, 0, none⟩ V 0).run P w = .ok () (w.setRow g V.toArray) := by
  have := run_storeVar_row (P := P) w g t ty cs.toArray V.toArray h (by simpa using hi) (by simpa using ho) (all_oneCell_toArray h1)
  cases hq : P.info? ty with
  | none => simp [hq] at hi
  | some i =>
    have hs : i.size = V.length := by simp [hq] at hi; omega
    simpa [storeVar, sizeOf, typeInfo, hq, Value.cells, hs] using this
/-- the loop over the pages: how the iterator stands -/
def Iter (b r n : Nat) (D : DU) (lf : Nat → Bool) (cnt : Nat) (wr : World) : Prop := ∃ left : Lit → Bool, wr.ranges Tryz.prog 31 ptrR b r n D left cnt ∧ ∀ k, lf k = left (kl k)
end Bu
end Go.Proofs.YtfpofaniicegaaaGreat

/- The machine's calls in the words of its bus and its bytes. -/
set_option linter.unusedVariables false
set_option linter.unusedSimpArgs false
namespace Go.Proofs.YtfpofaniicegaaaGreat
open Go.RowKit
open S64
namespace Bu
/-- the first of n bytes that is off the bus -/
def OffIs (l : Sp.S) (a n : Nat) : Option Nat → Prop
  | none => ∀ p, a ≤ p → p < a + n → on l p = true
  | some q => a ≤ q ∧ q < a + n ∧ on l q = false ∧ q ≤ TOP ∧ ∀ p, a ≤ p → p < q → on l p = true
theorem OffIs.uniq {l : Sp.S} {a n : Nat} {F G : Option Nat} (h : OffIs l a n F) (k : OffIs l a n G) : F = G := by
  cases F with
  | none =>
    cases G with
    | none => rfl
    | some q => have := h q k.1 k.2.1; rw [k.2.2.1] at this; cases this
  | some p =>
    cases G with
    | none => have := k p h.1 h.2.1; rw [h.2.2.1] at this; cases this
    | some q =>
      rcases Nat.lt_trichotomy p q with hl | hl | hl
      · have := k.2.2.2.2 p h.1 hl; rw [h.2.2.1] at this; cases this
      · rw [hl]
      · have := h.2.2.2.2 q k.1 hl; rw [k.2.2.1] at this; cases this
theorem MachAt.off {Z R : Nat → Prop} {w : World} {g : Nat} {M : PM} {A1 A2 Ao : Option Addr} {c1 c2 no co b : Nat} {pm : Nat → Option Nat} {sp : Sp.S} (h : MachAt Z R w g M A1 A2 Ao c1 c2 no co b pm sp) {a n : Nat} (ha : a ≤ TOP) : OffIs (M.rams ++ M.devs) a n (offAt sp a n) := by
  have hon : ∀ p, p ≤ TOP → on (M.rams ++ M.devs) p = !Sp.has sp p := fun p hp => by rw [h.has p hp]; simp
  cases hF : offAt sp a n with
  | none =>
    intro p h1 h2
    have h64 := offAt_none h ha hF
    have hp : p ≤ TOP := by unfold TOP; omega
    rw [hon p hp]
    unfold offAt at hF
    cases hx : Sp.next sp a with
    | mk m o =>
      rw [hx] at hF
      cases o with
      | false =>
        rw [(Sp.next_none h.nrm.1 (show (Sp.next sp a).2 = false by rw [hx])).2 p h1]; rfl
      | true =>
        obtain ⟨g1, g2, g3⟩ := Sp.next_some h.nrm.1 hx
        have hm : ¬ m < a + n := fun hc => by rw [if_pos ⟨rfl, by omega, hc⟩] at hF; cases hF
        rw [g3 p h1 (by omega)]; rfl
  | some q =>
    unfold offAt at hF
    cases hx : Sp.next sp a with
    | mk m o =>
      rw [hx] at hF
      by_cases hc : o = true ∧ 0 < n ∧ m < a + n
      · rw [if_pos hc] at hF
        injection hF with hF
        simp only at hF
        subst hF
        obtain ⟨rfl, _, _⟩ := hc
        obtain ⟨g1, g2, g3⟩ := Sp.next_some h.nrm.1 hx
        have hmt := has_top h.nrm.1 g2
        exact ⟨g1, by omega, by rw [hon m hmt, g2]; rfl, hmt, fun p h1 h2 => by rw [hon p (by omega), g3 p h1 h2]; rfl⟩
      · rw [if_neg hc] at hF; cases hF
/-- A MACHINE: what may turn with it, and its lists, are there. -/
structure MZ (Z R : Nat → Prop) (w : World) (g : Nat) (M : PM) : Prop where
  m : Mach Z R w g M
  z : ∀ k, Z k → k < w.heap.size
  r : ∀ k, R k → k < w.heap.size
theorem Mach.count_le {Z R : Nat → Prop} {w : World} {g : Nat} {M : PM} (h : Mach Z R w g M) : True := trivial
theorem MachAt.mz {Z R : Nat → Prop} {w : World} {g : Nat} {M : PM} {A1 A2 Ao : Option Addr} {c1 c2 no co b : Nat} {pm : Nat → Option Nat} {sp : Sp.S} (h : MachAt Z R w g M A1 A2 Ao c1 c2 no co b pm sp) (hz : ∀ k, Z k → k < w.heap.size) (hr : ∀ k, R k → k < w.heap.size) : MZ Z R w g M := ⟨⟨_, _, _, _, _, _, _, _, _, _, h⟩, hz, hr⟩
/-- what turns elsewhere leaves it -/
theorem MZ.chg {Z R Y : Nat → Prop} {w w' : World} {g : Nat} {M : PM} (h : MZ Z R w g M) (hc : ChgP Y w w') (hY : ∀ k, Z k ∨ R k → ¬ Y k) : MZ Z R w' g M := ⟨h.m.chg hc hY, fun k hk => Nat.lt_of_lt_of_le (h.z k hk) hc.size, fun k hk => Nat.lt_of_lt_of_le (h.r k hk) hc.size⟩
theorem MZ.below {Z R : Nat → Prop} {w w' : World} {g : Nat} {M : PM} (h : MZ Z R w g M) (hb : Below w.heap.size w w') : MZ Z R w' g M := h.chg (Y := fun _ => False) (ChgP.of_below hb) (fun _ _ h => h)
theorem MZ.drew {Z R : Nat → Prop} {w : World} {g : Nat} {M : PM} (h : MZ Z R w g M) : MZ Z R w.drew g M := h.below (Below.refl _ _).drew
theorem MZ.lt {Z R : Nat → Prop} {w : World} {g : Nat} {M : PM} (h : MZ Z R w g M) : g < w.heap.size := by
  obtain ⟨_, _, _, _, _, _, _, _, _, _, h⟩ := h.m
  exact h.row.lt
/-- what a call that lays nothing leaves -/
def Quiet1 (Z R : Nat → Prop) (w : World) (g : Nat) (M' : PM) (w' : World) : Prop := MZ Z R w' g M' ∧ ChgP Z w w'
/-- what a call that lays bytes leaves: new pages are its own -/
def Laid1 (Z R : Nat → Prop) (w : World) (g : Nat) (M' : PM) (w' : World) : Prop := ∃ Z', MZ Z' R w' g M' ∧ ChgP Z w w' ∧ ∀ k, Z' k → Z k ∨ w.heap.size ≤ k
theorem load_m {Z R : Nat → Prop} {M : PM} {at_ n g : Nat} {w : World} (h : MZ Z R w g M) (hk : n = 1 ∨ n = 2 ∨ n = 4 ∨ n = 8) (ha : at_ ≤ TOP) (hs : True) (hl : True) {F : Option Nat} (hF : OffIs (M.rams ++ M.devs) at_ n F) :
    Calls Tryz.prog 122 #[.pointer (some ⟨g, 0, none⟩), .int .u64 (at_ : Nat), .int .i64 (n : Nat)] w fun e w' => e = .returned (.tuple #[.int .u64 (peekV M at_ n F : Nat), faultV F]) ∧ Quiet1 Z R w g (loadM M F) w' := by
  obtain ⟨_, _, _, _, _, _, _, _, _, _, hm⟩ := h.m
  have e := (hm.off (n := n) ha).uniq hF
  subst e
  exact (load_any Z R M _ _ _ _ _ _ _ _ _ _ at_ n g w hm hk ha hs hl).mono fun e w' hh => ⟨hh.1, hh.2.1.mz (fun k hk => Nat.lt_of_lt_of_le (h.z k hk) hh.2.2.size) (fun k hk => Nat.lt_of_lt_of_le (h.r k hk) hh.2.2.size), hh.2.2⟩
theorem load_bad_m {Z R : Nat → Prop} {M : PM} {at_ g : Nat} {z : Int} {w : World} (h : MZ Z R w g M) (hz : wideB z = false) (hl : True) :
    Calls Tryz.prog 122 #[.pointer (some ⟨g, 0, none⟩), .int .u64 (at_ : Nat), .int .i64 z] w fun e w' => e = .returned (.tuple #[.int .u64 (0 : Nat), .agg #[.int .i64 31, .int .u64 (at_ : Nat)]]) ∧ Quiet1 Z R w g M w' := by
  obtain ⟨_, _, _, _, _, _, _, _, _, _, hm⟩ := h.m
  exact (load_bad Z R M _ _ _ _ _ _ _ _ _ _ at_ g z w hm hz hl).mono fun e w' hh => ⟨hh.1, hh.2.1.mz (fun k hk => Nat.lt_of_lt_of_le (h.z k hk) hh.2.2.size) (fun k hk => Nat.lt_of_lt_of_le (h.r k hk) hh.2.2.size), hh.2.2⟩
theorem peek_m {Z R : Nat → Prop} {M : PM} {at_ n g : Nat} {w : World} (h : MZ Z R w g M) (hk : n = 1 ∨ n = 2 ∨ n = 4 ∨ n = 8) (ha : at_ ≤ TOP) (hs : True) {F : Option Nat} (hF : OffIs (M.rams ++ M.devs) at_ n F) :
    Calls Tryz.prog 123 #[.pointer (some ⟨g, 0, none⟩), .int .u64 (at_ : Nat), .int .i64 (n : Nat)] w fun e w' => e = .returned (.tuple #[.int .u64 (peekV M at_ n F : Nat), faultV F]) ∧ Quiet1 Z R w g (stray M F) w' := by
  obtain ⟨_, _, _, _, _, _, _, _, _, _, hm⟩ := h.m
  have e := (hm.off (n := n) ha).uniq hF
  subst e
  exact (peek_any Z R M _ _ _ _ _ _ _ _ _ _ at_ n g w hm hk ha hs).mono fun e w' hh => ⟨hh.1, hh.2.1.mz (fun k hk => Nat.lt_of_lt_of_le (h.z k hk) hh.2.2.size) (fun k hk => Nat.lt_of_lt_of_le (h.r k hk) hh.2.2.size), hh.2.2⟩
/-- n bytes -/
def memB (mem : Nat → Nat) (a n : Nat) : List Nat := (List.range n).map fun i => mem (a + i)
theorem memB_len (mem : Nat → Nat) (a n : Nat) : (memB mem a n).length = n := by simp [memB]
theorem memB_get (mem : Nat → Nat) (a n i : Nat) (hi : i < n) : (memB mem a n)[i]? = some (mem (a + i)) := by
  rw [memB, List.getElem?_map, List.getElem?_range hi]; rfl
theorem memB_getD (mem : Nat → Nat) (a n i : Nat) (hi : i < n) : (memB mem a n).getD i 0 = mem (a + i) := by
  rw [List.getD_eq_getElem?_getD, memB_get _ _ _ _ hi]; rfl
theorem outB_memB (mem : Nat → Nat) (a n : Nat) : outB mem a n n = (memB mem a n).map u8 := by
  rw [outB, memB, List.map_map]
  refine List.map_congr_left fun i hi => ?_
  rw [if_pos (List.mem_range.1 hi)]; rfl
/-- what Read leaves -/
def Read1 (Z R : Nat → Prop) (w : World) (g : Nat) (M : PM) (at_ n : Nat) (F : Option Nat) (e : Ending) (w' : World) : Prop :=
  Quiet1 Z R w g (stray M F) w' ∧ match F with
  | some p => e = .returned (.tuple #[.slice none 0 0, faultV (some p)])
  | none => ∃ bb, e = .returned (.tuple #[.slice (some ⟨bb, 0, none⟩) n n, faultV none]) ∧ w.heap.size ≤ bb ∧ Row w' bb 5 ((memB M.mem at_ n).map u8) ∧ ∀ b ∈ memB M.mem at_ n, b < 256
theorem read_m {Z R : Nat → Prop} {M : PM} {at_ n g : Nat} {w : World} (h : MZ Z R w g M) (hn : n ≤ 9223372036854775807) (ha : at_ ≤ TOP) (hs : True) {F : Option Nat} (hF : OffIs (M.rams ++ M.devs) at_ n F) :
    Calls Tryz.prog 30 #[.pointer (some ⟨g, 0, none⟩), .int .u64 (at_ : Nat), .int .i64 (n : Nat)] w (Read1 Z R w g M at_ n F) := by
  obtain ⟨_, _, _, _, _, _, _, _, _, _, hm⟩ := h.m
  have e := (hm.off (n := n) ha).uniq hF
  subst e
  refine (read_any Z R M _ _ _ _ _ _ _ _ _ _ at_ n g w hm hn ha hs).mono fun e w' hh => ⟨⟨hh.1.mz (fun k hk => Nat.lt_of_lt_of_le (h.z k hk) hh.2.1.size) (fun k hk => Nat.lt_of_lt_of_le (h.r k hk) hh.2.1.size), hh.2.1⟩, ?_⟩
  rcases hh.2.2 with ⟨p, h1, h2⟩ | ⟨h1, bb, h2, h3, h4⟩
  · rw [h1]; exact h2
  · rw [h1]
    rw [outB_memB] at h4
    refine ⟨bb, h2, h3, h4, fun b hb => ?_⟩
    obtain ⟨i, _, rfl⟩ := List.mem_map.1 hb
    exact hm.byte _
theorem LaySaid.laid {Z R : Nat → Prop} {w : World} {g : Nat} {M M' : PM} {A1 A2 Ao : Option Addr} {x1 x2 no co b : Nat} {sp : Sp.S} {F : Option Nat} {e : Ending} {w' : World} (h : LaySaid Z R w g M' A1 A2 Ao x1 x2 no co b sp F e w') (hr : ∀ k, R k → k < w.heap.size) : e = .returned (faultV F) ∧ Laid1 Z R w g M' w' := by
  obtain ⟨h1, ⟨pm', hm⟩, hc⟩ := h
  refine ⟨h1, fun k => grow Z w k ∧ k < w'.heap.size, (hm.tight.mono (fun k hk => hk) (R' := R) (fun k hk => hk.1.1) (fun k hk hrk => ?_)).mz (fun k hk => hk.2) (fun k hk => Nat.lt_of_lt_of_le (hr k hk) hc.size), hc, fun k hk => hk.1⟩
  exact hm.dis k hk.1 ⟨hrk, hr k hrk⟩
theorem store_m {Z R : Nat → Prop} {M : PM} {at_ n g v : Nat} {w : World} (h : MZ Z R w g M) (hk : n = 1 ∨ n = 2 ∨ n = 4 ∨ n = 8) (hv : v ≤ TOP) (hst : True) (ha : at_ ≤ TOP) (hs : True) {F : Option Nat} (hF : OffIs (M.rams ++ M.devs) at_ n F) :
    Calls Tryz.prog 29 #[.pointer (some ⟨g, 0, none⟩), .int .u64 (at_ : Nat), .int .i64 (n : Nat), .int .u64 (v : Nat)] w fun e w' => e = .returned (faultV F) ∧ Laid1 Z R w g (laidM M at_ n (byteOf v) 1 F) w' := by
  obtain ⟨_, _, _, _, _, _, _, _, _, _, hm⟩ := h.m
  have e := (hm.off (n := n) ha).uniq hF
  subst e
  exact (store_any Z R M _ _ _ _ _ _ _ _ _ _ at_ n g v w hm hk hv hst ha hs).mono fun e w' hh => hh.laid (M := M) h.r
theorem kept_m {Z R : Nat → Prop} {M : PM} {g : Nat} {ks : List Nat} {w : World} (h : MZ Z R w g M) (hn : ks.Nodup) (hk : ∀ k, k ∈ ks ↔ nz M.mem k) : Calls Tryz.prog 31 #[.pointer (some ⟨g, 0, none⟩)] w fun e w' => e = .returned (.int .i64 (ks.length : Nat)) ∧ w = w' := by
  obtain ⟨_, _, _, _, _, _, _, _, _, _, hm⟩ := h.m
  exact kept_any Z R M _ _ _ _ _ _ _ _ _ _ g ks w hm hn hk
theorem loads_m {Z R : Nat → Prop} {M : PM} {g : Nat} {w : World} (h : MZ Z R w g M) : Calls Tryz.prog 33 #[.pointer (some ⟨g, 0, none⟩)] w fun e w' => e = .returned (.int .i64 M.loads) ∧ w = w' := by
  obtain ⟨_, _, _, _, _, _, _, _, _, _, hm⟩ := h.m
  exact loads_any Z R M _ _ _ _ _ _ _ _ _ _ g w hm
theorem stores_m {Z R : Nat → Prop} {M : PM} {g : Nat} {w : World} (h : MZ Z R w g M) : Calls Tryz.prog 34 #[.pointer (some ⟨g, 0, none⟩)] w fun e w' => e = .returned (.int .i64 M.stores) ∧ w = w' := by
  obtain ⟨_, _, _, _, _, _, _, _, _, _, hm⟩ := h.m
  exact stores_any Z R M _ _ _ _ _ _ _ _ _ _ g w hm
theorem ClonedM.mz {R : Nat → Prop} {w : World} {M : PM} {e : Ending} {w' : World} (h : ClonedM R w M e w') : Below w.heap.size w w' ∧ ∃ g Z' R', e = .returned (.pointer (some ⟨g, 0, none⟩)) ∧ MZ Z' R' w' g { M with loads := 0, stores := 0, strays := 0 } ∧ (∀ k, Z' k → w.heap.size ≤ k) ∧ ∀ k, R' k → (R k ∧ k < w.heap.size) ∨ w.heap.size ≤ k := by
  obtain ⟨hb, g, Z', R', he, hm, hz, hr⟩ := h
  exact ⟨hb, g, Z', R', he, ⟨hm, fun k hk => (hz k hk).2, fun k hk => by have := hb.size; rcases hr k hk with h | h <;> omega⟩, fun k hk => (hz k hk).1, fun k hk => by rcases hr k hk with h | h; exact .inl h; exact .inr h.1⟩
/-- what New has made -/
theorem NewSaid.mz {w : World} {rams devs : Sp.S} {e : Ending} {w' : World} (h : NewSaid w rams devs e w') (h0 : newE rams devs = 0) : Below w.heap.size w w' ∧ ∃ g Z R, e = .returned (.tuple #[.pointer (some ⟨g, 0, none⟩), .int .i64 0]) ∧ MZ Z R w' g ⟨rams, devs, fun _ => 0, 0, 0, 0, fun l => l = []⟩ ∧ ∀ k, Z k ∨ R k → w.heap.size ≤ k := by
  obtain ⟨hb, h | ⟨_, g, Z, R, he, hm, hzr⟩⟩ := h
  · exact absurd h0 h.1
  · exact ⟨hb, g, Z, R, he, ⟨hm, fun k hk => (hzr k (.inl hk)).2, fun k hk => (hzr k (.inr hk)).2⟩, fun k hk => (hzr k hk).1⟩
end Bu
end Go.Proofs.YtfpofaniicegaaaGreat

/- The walk of the law BusNames. -/
set_option linter.unusedVariables false
set_option linter.unusedSimpArgs false
namespace Go.Proofs.YtfpofaniicegaaaGreat
open Go.RowKit
open S64
namespace Bu
theorem isS_row {w : World} {g n : Nat} {t : TypeId} {s : Sp.S} (h : Row w g t (s.map scell).flatten) (hn : s.length = n) (hl : n ≤ 1000) : IsS w w.heap.size (some ⟨g, 0, none⟩) n s := by
  have hle := flat_len (s := 2) (s.map scell) (scell_len s)
  rw [List.length_map, hn] at hle
  refine ⟨⟨by rw [hle, Nat.mul_comm], fun _ => ⟨_, rfl, h.lt, fun j u hu => ?_⟩⟩, hn, by omega⟩
  rw [Addr.add_mid, Nat.zero_add, h.cell]; exact hu
/-- a block that is none of the machine's stays -/
theorem Laid1.row {Z R : Nat → Prop} {w w' : World} {g g' : Nat} {M : PM} {t : TypeId} {cs : List Value} (h : Laid1 Z R w g M w') (hr : Row w g' t cs) (hz : ¬ Z g') : Row w' g' t cs := by
  obtain ⟨Z', _, hc, _⟩ := h
  exact hc.row hr hz
def nR : Sp.S := [(4096, 8192)]
def nD : Sp.S := [(12288, 4096)]
def nM1 : PM := ⟨nR, nD, fun _ => 0, 0, 0, 0, fun l => l = []⟩
def nM2 : PM := ⟨nR, nD, layM (fun _ => 0) 12284 8 (byteOf 18446744073709551615), 0, 1, 0, pgF (fun l => l = []) 12284 8⟩
def nM3 : PM := ⟨nR, nD, layM (fun _ => 0) 12284 8 (byteOf 18446744073709551615), 1, 1, 0, pgF (fun l => l = []) 12284 8⟩
def nM4 : PM := ⟨nR, nD, layM (fun _ => 0) 12284 8 (byteOf 18446744073709551615), 1, 1, 1, pgF (fun l => l = []) 12284 8⟩
theorem n_new : newE nR nD = 0 := by decide +kernel
theorem n_on {p : Nat} (h1 : 4096 ≤ p) (h2 : p < 16384) : on (nR ++ nD) p = true := by
  simp [on, nR, nD]; omega
theorem n_off : on (nR ++ nD) 16384 = false := by decide
theorem n_load : numB nM2.mem 12287 2 = 65535 := by decide +kernel
theorem n_where : spotF nM3 12290 3 = some (2, 0, 2) := by decide +kernel
theorem n_kept (k : Nat) : k ∈ [2, 3] ↔ nz nM4.mem k := by
  constructor
  · intro h
    rcases List.mem_cons.1 h with rfl | h
    · exact ⟨4092, by omega, by decide +kernel⟩
    · rw [List.mem_singleton.1 h]
      exact ⟨0, by omega, by decide +kernel⟩
  · rintro ⟨i, hi, hn⟩
    by_cases h : 12284 ≤ 4096 * k + i ∧ 4096 * k + i < 12284 + 8
    · simp; omega
    · exfalso
      apply hn
      simp only [nM4, layM]
      rw [if_neg h]
end Bu
end Go.Proofs.YtfpofaniicegaaaGreat

/- The walks of what the statements without the document's own answers lean on: Within, wide, inside, all, ground. -/
set_option linter.unusedVariables false
set_option linter.unusedSimpArgs false
namespace Go.Proofs.YtfpofaniicegaaaGreat
open Go.RowKit
open S64
namespace Bu
set_option maxRecDepth 100000 in
theorem within_any (n : Int) (k : Nat) (w : World) (hn : -9223372036854775808 ≤ n ∧ n ≤ 9223372036854775807) (hk : k ≤ 4611686018427387903) :
    Calls Tryz.prog 45 #[.int .i64 n, .int .i64 0, .int .i64 k] w fun e w' => (∃ x : Nat, e = .returned (.int .i64 x) ∧ x ≤ k) ∧ w = w' := by
  obtain ⟨r, hr⟩ : ∃ r, r = n.tmod ((k : Int) + 1) := ⟨_, rfl⟩
  have hlo : -((k : Int) + 1) < r := by rw [hr]; exact Int.lt_tmod_of_pos n (by omega)
  have hhi : r < (k : Int) + 1 := by rw [hr]; exact Int.tmod_lt_of_pos n (by omega)
  have hr2 := hr.symm
  have h0 : (((k : Int) + 1) == 0) = false := by simp; omega
  clear hr
  by_cases h : r < 0
  · go_enter Tryz.func45, Tryz.ntmps45
    go_wp2_with fail
    go_ret
    exact ⟨⟨(r + (k : Int) + 1).toNat, by simp; omega, by omega⟩, rfl⟩
  · go_enter Tryz.func45, Tryz.ntmps45
    go_wp2_with fail
    go_ret
    exact ⟨⟨r.toNat, by simp; omega, by omega⟩, rfl⟩
/-- is a whole access on the ground? -/
def inB (a k : Nat) : Bool := decide (8192 ≤ a ∧ a + k ≤ 24576)
def Wid (k : Nat) : Prop := k = 1 ∨ k = 2 ∨ k = 4 ∨ k = 8
def WidSaid (w : World) (e : Ending) (w' : World) : Prop := ∃ k, Wid k ∧ e = .returned (.int .i64 (k : Nat)) ∧ Below w.heap.size w w'
def gR : Sp.S := [(8192, 4096), (12288, 8192)]
def gD : Sp.S := [(20480, 4096)]
theorem g_new : newE gR gD = 0 := by decide +kernel
theorem g_on (p : Nat) : on (gR ++ gD) p = decide (8192 ≤ p ∧ p < 24576) := by
  rw [Bool.eq_iff_iff]
  simp [on, gR, gD]
  omega
/-- an access that is wholly on the ground -/
theorem g_in {a k : Nat} (h : 8192 ≤ a ∧ a + k ≤ 24576) : OffIs (gR ++ gD) a k none := fun p h1 h2 => by rw [g_on]; exact decide_eq_true (by omega)
/-- the first byte of an access that is off the ground -/
def gOff (a : Nat) : Nat := if a < 8192 ∨ 24576 ≤ a then a else 24576
theorem g_out {a k : Nat} (ha : a ≤ TOP) (h0 : 0 < k) (h : ¬ (8192 ≤ a ∧ a + k ≤ 24576)) : OffIs (gR ++ gD) a k (some (gOff a)) := by
  unfold gOff
  split
  · exact ⟨Nat.le_refl _, by omega, by rw [g_on]; exact decide_eq_false (by omega), ha, fun p h1 h2 => by omega⟩
  · exact ⟨by omega, by omega, by rw [g_on]; exact decide_eq_false (by omega), by decide, fun p h1 h2 => by rw [g_on]; exact decide_eq_true (by omega)⟩
theorem idx_byte (w : World) (b o n c k : Nat) (hk : k < n) (hn : n ≤ 9223372036854775807) : (Instr.indexAt 45 (.slice (some ⟨b, o, none⟩) n c) (.int .i64 (k : Nat))).run Tryz.prog w = .ok (.pointer (some ⟨b, o + k, none⟩)) w := by
  have h1 : (k : Int) < (n : Int) := by omega
  go_simp
/-- all bytes of a machine on the ground -/
def allB (M : PM) : List Nat := memB M.mem 8192 16384
/-- what all leaves -/
def AllSaid (Z R : Nat → Prop) (w : World) (g : Nat) (M : PM) (e : Ending) (w' : World) : Prop :=
  ∃ bb, e = .returned (.slice (some ⟨bb, 0, none⟩) 16384 16384) ∧ w.heap.size ≤ bb ∧ Row w' bb 5 ((allB M).map u8) ∧ (∀ b ∈ allB M, b < 256) ∧ MZ Z R w' g M ∧ ChgP Z w w'
theorem read_g {Z R : Nat → Prop} {M : PM} {g : Nat} {w : World} (h : MZ Z R w g M) (hr : M.rams = gR) (hd : M.devs = gD) (hs : True) :
    Calls Tryz.prog 30 #[.pointer (some ⟨g, 0, none⟩), .int .u64 8192, .int .i64 16384] w fun e w' => ∃ bb, e = .returned (.tuple #[.slice (some ⟨bb, 0, none⟩) 16384 16384, .agg #[.int .i64 0, .int .u64 0]]) ∧ w.heap.size ≤ bb ∧ Row w' bb 5 ((allB M).map u8) ∧ (∀ b ∈ allB M, b < 256) ∧ MZ Z R w' g M ∧ ChgP Z w w' := by
  refine (read_m (n := 16384) (at_ := 8192) (F := none) h (by omega) (by decide) hs (by rw [hr, hd]; exact g_in ⟨by omega, by omega⟩)).mono ?_
  rintro e w' ⟨⟨hm, hc⟩, bb, he, h1, h2, h3⟩
  exact ⟨bb, he, h1, h2, h3, hm, hc⟩
/-- the ground's bytes: k bytes of the text laid -/
def gMem (bs : List Nat) : Nat → Nat → Nat
  | 0 => fun _ => 0
  | k + 1 => layM (gMem bs k) (8192 + 163 * k) 1 (byteOf (bs.getD k 0))
def gP : Nat → List Nat → Prop
  | 0 => fun l => l = []
  | k + 1 => pgF (gP k) (8192 + 163 * k) 1
def gm (bs : List Nat) (k : Nat) : PM := ⟨gR, gD, gMem bs k, 0, k, 0, gP k⟩
/-- what ground leaves -/
def GroundSaid (w : World) (bs : List Nat) (k : Nat) (e : Ending) (w' : World) : Prop :=
  ∃ g Z R, e = .returned (.pointer (some ⟨g, 0, none⟩)) ∧ MZ Z R w' g (gm bs k) ∧ (∀ x, Z x ∨ R x → w.heap.size ≤ x) ∧ Below w.heap.size w w'
def GI (w : World) (bs : List Nat) (g : Nat) (R : Nat → Prop) (k : Nat) (wr : World) : Prop := ∃ Z, MZ Z R wr g (gm bs k) ∧ (∀ x, Z x → w.heap.size ≤ x) ∧ Below w.heap.size w wr
end Bu
end Go.Proofs.YtfpofaniicegaaaGreat

/- The walks of Same over ranges (alike ones), sameBus (of alike ones); how many pages are kept. -/
set_option linter.unusedVariables false
set_option linter.unusedSimpArgs false
namespace Go.Proofs.YtfpofaniicegaaaGreat
open Go.RowKit
open S64
namespace Bu
theorem neqR (w : World) (a s : Nat) : (binOp .neq 62 (.agg #[.int .u64 (a : Nat), .int .u64 (s : Nat)]) (.agg #[.int .u64 (a : Nat), .int .u64 (s : Nat)])).run Tryz.prog w = .ok (.bool false) w := by
  go_simp
/-- two buses that read alike -/
def IsBus (w : World) (A1 A2 : Option Addr) (n1 n2 : Nat) (s1 s2 : Sp.S) : Prop := IsS w w.heap.size A1 n1 s1 ∧ IsS w w.heap.size A2 n2 s2
theorem MZ.byte {Z R : Nat → Prop} {w : World} {g : Nat} {M : PM} (h : MZ Z R w g M) : ∀ p, M.mem p < 256 := by
  obtain ⟨_, _, _, _, _, _, _, _, _, _, h⟩ := h.m
  exact h.byte
theorem nz_lz {mem : Nat → Nat} {k : Nat} : nz mem k ↔ lz mem k = false := by
  constructor
  · rintro ⟨i, hi, hn⟩
    cases h : lz mem k with
    | false => rfl
    | true => exact absurd (lz_yes h i hi) hn
  · exact lz_no
/-- the pages of the ground that hold something -/
def gKs (mem : Nat → Nat) : List Nat := [2, 3, 4, 5].filter fun k => !lz mem k
theorem gKs_nodup (mem : Nat → Nat) : (gKs mem).Nodup := (by decide : [2, 3, 4, 5].Nodup).filter _
theorem gKs_mem {mem : Nat → Nat} (h : ∀ p, ¬ (8192 ≤ p ∧ p < 24576) → mem p = 0) (k : Nat) : k ∈ gKs mem ↔ nz mem k := by
  unfold gKs
  rw [List.mem_filter, nz_lz, Bool.not_eq_true']
  constructor
  · exact fun h => h.2
  · intro hk
    refine ⟨?_, hk⟩
    obtain ⟨i, hi, hn⟩ := lz_no hk
    have : 8192 ≤ 4096 * k + i ∧ 4096 * k + i < 24576 := by
      rcases Classical.em (8192 ≤ 4096 * k + i ∧ 4096 * k + i < 24576) with h1 | h1
      · exact h1
      · exact absurd (h _ h1) hn
    have hk' : k = 2 ∨ k = 3 ∨ k = 4 ∨ k = 5 := by omega
    simp; omega
theorem kept_g {Z R : Nat → Prop} {M : PM} {g : Nat} {w : World} (h : MZ Z R w g M) (ho : ∀ p, ¬ (8192 ≤ p ∧ p < 24576) → M.mem p = 0) : Calls Tryz.prog 31 #[.pointer (some ⟨g, 0, none⟩)] w fun e w' => e = .returned (.int .i64 ((gKs M.mem).length : Nat)) ∧ w = w' := kept_m h (gKs_nodup _) (gKs_mem ho)
theorem layM_out {mem : Nat → Nat} {a k : Nat} {f : Nat → Nat} (h : ∀ p, ¬ (8192 ≤ p ∧ p < 24576) → mem p = 0) (ha : k = 0 ∨ (8192 ≤ a ∧ a + k ≤ 24576)) : ∀ p, ¬ (8192 ≤ p ∧ p < 24576) → layM mem a k f p = 0 := by
  intro p hp
  unfold layM
  rw [if_neg (by rcases ha with rfl | h1 <;> omega)]
  exact h p hp
theorem gMem_out (bs : List Nat) : ∀ k, k ≤ 100 → ∀ p, ¬ (8192 ≤ p ∧ p < 24576) → gMem bs k p = 0
  | 0, _ => fun p _ => rfl
  | k + 1, h => layM_out (gMem_out bs k (by omega)) (.inr ⟨by omega, by omega⟩)
/-- may so many bytes be laid there? -/
def okB (a n : Nat) : Bool := decide (n = 0) || inB a n
theorem okB_yes {a n : Nat} (h : okB a n = true) : n = 0 ∨ (8192 ≤ a ∧ a + n ≤ 24576) := by
  unfold okB inB at h
  rw [Bool.or_eq_true, decide_eq_true_iff, decide_eq_true_iff] at h
  exact h
theorem okB_no {a n : Nat} (h : okB a n = false) : 0 < n ∧ ¬ (8192 ≤ a ∧ a + n ≤ 24576) := by
  unfold okB inB at h
  rw [Bool.or_eq_false_iff, decide_eq_false_iff_not, decide_eq_false_iff_not] at h
  omega
/-- a machine on the ground -/
structure OnG (M : PM) : Prop where
  rams : M.rams = gR
  devs : M.devs = gD
  out : ∀ p, ¬ (8192 ≤ p ∧ p < 24576) → M.mem p = 0
/-- what laying bytes on the ground makes: the machine, the fault's two numbers -/
structure FilSaid (M : PM) (a n : Nat) (f : Nat → Nat) (M' : PM) (y q : Nat) : Prop where
  og : OnG M'
  st : True
  mem : M'.mem = if okB a n = true then layM M.mem a n f else M.mem
  yes : okB a n = true → y = 0 ∧ q = 0
  no : okB a n = false → y = 30
theorem fil_of {M : PM} (hg : OnG M) (a n : Nat) (f : Nat → Nat) (ha : a ≤ TOP) : ∃ F y q, OffIs (M.rams ++ M.devs) a n F ∧ faultV F = .agg #[.int .i64 ((y : Nat) : Int), .int .u64 ((q : Nat) : Int)] ∧ FilSaid M a n f (laidM M a n f 0 F) y q := by
  rw [hg.rams, hg.devs]
  cases hk : okB a n with
  | true =>
    have h := okB_yes hk
    refine ⟨none, 0, 0, ?_, rfl, ⟨⟨hg.rams, hg.devs, ?_⟩, trivial, by rw [if_pos hk]; rfl, fun _ => ⟨rfl, rfl⟩, fun h => by rw [hk] at h; cases h⟩⟩
    · rcases h with rfl | h
      · exact fun p h1 h2 => by omega
      · exact g_in h
    · exact layM_out hg.out h
  | false =>
    have h := okB_no hk
    refine ⟨some (gOff a), 30, gOff a, g_out ha h.1 h.2, rfl, ⟨⟨hg.rams, hg.devs, hg.out⟩, trivial, by rw [if_neg (by rw [hk]; decide)]; rfl, (fun h => by rw [hk] at h; cases h), fun _ => rfl⟩⟩
/-- the bytes of the ground while d bytes are laid -/
def wantB (mem : Nat → Nat) (a d : Nat) (f : Nat → Nat) : List Nat := memB (layM mem a d f) 8192 16384
theorem wantB_set (mem : Nat → Nat) (a d : Nat) (f : Nat → Nat) (h1 : 8192 ≤ a) (h2 : a + d < 24576) : ((wantB mem a d f).map u8).set (a + d - 8192) (u8 (f d)) = (wantB mem a (d + 1) f).map u8 := by
  apply List.ext_getElem?
  intro i
  rw [List.getElem?_set, List.getElem?_map, List.getElem?_map]
  by_cases hi : i < 16384
  · rw [wantB, wantB, memB_get _ _ _ _ hi, memB_get _ _ _ _ hi]
    by_cases he : a + d - 8192 = i
    · rw [if_pos he, if_pos (by rw [List.length_map, memB_len]; omega)]
      have e : 8192 + i = a + d := by omega
      rw [e]
      unfold layM
      rw [if_pos (by omega), show a + d - a = d by omega]; rfl
    · rw [if_neg he]
      unfold layM
      congr 2
      by_cases h3 : a ≤ 8192 + i ∧ 8192 + i < a + d
      · rw [if_pos h3, if_pos (by omega)]
      · rw [if_neg h3, if_neg (by omega)]
  · rw [List.getElem?_eq_none (by rw [wantB, memB_len]; omega), if_neg (by omega), List.getElem?_eq_none (by rw [wantB, memB_len]; omega)]
theorem wantB_zero (M : PM) (a : Nat) (f : Nat → Nat) : wantB M.mem a 0 f = allB M := by rw [wantB, layM_zero]; rfl
theorem wantB_end {M M' : PM} {a n : Nat} {f : Nat → Nat} (h : M'.mem = layM M.mem a n f) : wantB M.mem a n f = allB M' := by rw [wantB, allB, h]
theorem allB_same {M M' : PM} (h : M'.mem = M.mem) : allB M' = allB M := by rw [allB, allB, h]
/-- what holds between the calls: the machine, the bytes that are wanted, the fault's variable -/
structure FS (w : World) (g : Nat) (R : Nat → Prop) (M : PM) (bw bf : Nat) (wb : List Nat) (y q : Nat) (A : Option Addr) (n : Nat) (ps : List Nat) (wr : World) : Prop where
  m : ∃ Z, MZ Z R wr g M ∧ (∀ x, Z x → w.heap.size ≤ x) ∧ ¬ Z bw ∧ ¬ Z bf
  rw_ : Row wr bw 5 (wb.map u8)
  rf : Row wr bf 57 [.int .i64 (y : Nat), .int .u64 (q : Nat)]
  ps : IsB wr w.heap.size A n ps
  gw : w.heap.size ≤ bw
  gf : w.heap.size ≤ bf
  bel : Below w.heap.size w wr
end Bu
end Go.Proofs.YtfpofaniicegaaaGreat
