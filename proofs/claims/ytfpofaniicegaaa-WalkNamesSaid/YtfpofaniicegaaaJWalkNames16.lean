/- Texts of this claim, one behind the other: BuD, BuW, BusN, Ent. -/
import Derived.Test.YtfpofaniicegaaaJWalkNames15
import Derived.Maps.RangeWalk
/- The walk of a machine's Clone. -/
set_option linter.unusedVariables false
set_option linter.unusedSimpArgs false
namespace Go.Proofs.Ytfpofaniicegaaa
open Go.RowKit
open S64
namespace Bu
/-- what holds while a machine is cloned; lf: which pages are still to come -/
structure CloneI (w : World) (M : PM) (pm : Nat → Option Nat) (n1 n2 : Nat) (Ao : Option Addr) (no co : Nat) (g mb : Nat) (E1 E2 : Option Addr) (d1 d2 : Nat) (pn : Nat → Option Nat) (lf : Nat → Bool) (wr : World) : Prop where
  row : Row wr g 121 [.int .i64 0, .int .i64 0, .int .i64 0, .slice E1 n1 d1, .slice E2 n2 d2, .slice Ao no co, .map (some mb)]
  own1 : BR.Own wr w.heap.size E1 n1 d1 M.rams
  own2 : BR.Own wr w.heap.size E2 n2 d2 M.devs
  cap1 : n1 ≤ d1 ∧ d1 ≤ 9223372036854775807
  cap2 : n2 ≤ d2 ∧ d2 ≤ 9223372036854775807
  map : MapAt wr mb pn
  leaf : ∀ k p, pn k = some p → Row wr p 148 (leafRow M.mem k) ∧ w.heap.size ≤ p
  inj : ∀ k k' p, pn k = some p → pn k' = some p → k = k'
  come : ∀ k, (pn k).isSome = ((pm k).isSome && !lf k)
  bel : Below w.heap.size w wr
  geg : w.heap.size ≤ g
  gem : w.heap.size ≤ mb
theorem ptrD_inj {a b : Option Nat} (h : ptrD a = ptrD b) : a = b := by
  cases a <;> cases b
  · rfl
  · cases h
  · cases h
  · simp only [ptrD] at h
    injection h with h; injection h with _ h
    rw [Int.ofNat.inj h]
theorem ptrR_form {v : Value} {y : DU × List MemPlace} (h : ptrR v = some y) : ∃ c : Option Nat, v = ptrV c ∧ y = (ptrD c, []) := by
  unfold ptrR at h
  split at h
  · injection h with h; exact ⟨none, rfl, h.symm⟩
  · rename_i p
    injection h with h; exact ⟨some p, rfl, h.symm⟩
  · cases h
theorem kl_form {key : Value} {l : Lit} (h : keyOf Try.prog 22 key = some l) : ∃ k : Nat, k ≤ TOP ∧ key = .int .u64 (k : Nat) ∧ l = kl k := by
  obtain ⟨x, rfl, rfl, hw⟩ := Maps.keyOf_int_inv Try.underlying22 h
  have hb := bounds_u64 hw
  refine ⟨x.toNat, by unfold TOP; omega, ?_, ?_⟩
  · rw [show ((x.toNat : Nat) : Int) = x by omega]
  · unfold kl; rw [show ((x.toNat : Nat) : Int) = x by omega]
theorem kl_same (q k : Nat) : (kl q).sameKey (kl k) = decide (q = k) := by
  by_cases e : q = k
  · subst e; simp [kl, Lit.sameKey]
  · rw [Maps.sameKey_ne (kl_ne e), decide_eq_false e]
theorem ranges_has {w : World} {b r n cnt : Nat} {D : DU} {left : Lit → Bool} (h : w.ranges Try.prog 22 ptrR b r n D left cnt) {k : Nat} (hl : left (kl k) = true) : Maps.has D (kl k) = true := by
  obtain ⟨es, clock, since, seen, c0, hb, F, hs, hD, hit, h1, h2, h3, h4, h5⟩ := h
  obtain ⟨x, hx, he⟩ := h4 _ hl
  rw [hD, Maps.has_eq, List.any_eq_true]
  exact ⟨_, mem_sorted.2 (List.mem_map.2 ⟨x, hx, rfl⟩), by rw [he, kl_same]; simp⟩
/-- the pages are all there -/
theorem CloneI.mach {Z R : Nat → Prop} {w : World} {g0 : Nat} {M : PM} {A1 A2 Ao : Option Addr} {c1 c2 no co b : Nat} {pm : Nat → Option Nat} {sp : Sp.S} (hm : MachAt Z R w g0 M A1 A2 Ao c1 c2 no co b pm sp)
    {n1 n2 g mb d1 d2 : Nat} {E1 E2 : Option Addr} {pn : Nat → Option Nat} {lf : Nat → Bool} {wr : World} (h : CloneI w M pm n1 n2 Ao no co g mb E1 E2 d1 d2 pn lf wr) (h1 : M.rams.length = n1) (h2 : M.devs.length = n2) (hl : ∀ k, lf k = false) :
    Mach (fun k => k = g ∨ k = mb ∨ ∃ q, pn q = some k) (fun k => (∃ ad, E1 = some ad ∧ ad.block = k) ∨ (∃ ad, E2 = some ad ∧ ad.block = k) ∨ (R k ∧ k < w.heap.size)) wr g { M with loads := 0, stores := 0, strays := 0 } := by
  subst h1; subst h2
  have hmap : ∃ es clock, wr.heap[mb]? = some (.map es clock) := by
    obtain ⟨⟨D, n, ⟨es, clock, hb, _⟩, _⟩, _⟩ := h.map
    exact ⟨es, clock, hb⟩
  have hiff : ∀ k, (pn k).isSome = (pm k).isSome := fun k => by rw [h.come, hl k]; simp
  refine ⟨E1, E2, Ao, d1, d2, no, co, mb, pn, sp, ⟨h.row, .inl rfl, .inr (.inl rfl), ⟨h.own1.isS, h.cap1.1, h.cap1.2, fun ad e _ => .inl ⟨ad, e, rfl⟩⟩, ⟨h.own2.isS, h.cap2.1, h.cap2.2, fun ad e _ => .inr (.inl ⟨ad, e, rfl⟩)⟩, ?_, hm.nrm, hm.has, hm.lim, h.map, fun k p hp => ?_, h.inj, fun k hk => ?_, hm.byte, ?_⟩⟩
  · have := hm.tight.lo.chg (ChgP.of_below (Z := fun _ => False) h.bel) (fun _ _ h => h)
    exact this.mono (fun k hk => .inr (.inr hk))
  · obtain ⟨l1, l2⟩ := h.leaf k p hp
    refine ⟨l1, .inr (.inr ⟨k, hp⟩), (hm.some_iff k).1 ?_⟩
    rw [← hiff, hp]; rfl
  · refine hm.zero k ?_
    have := hiff k
    rw [hk] at this
    cases hpk : pm k with
    | none => rfl
    | some p => rw [hpk] at this; cases this
  · intro k hk hr
    have hge : w.heap.size ≤ k := by
      rcases hk with rfl | rfl | ⟨q, hq⟩
      · exact h.geg
      · exact h.gem
      · exact (h.leaf q k hq).2
    rcases hr with hr | hr | hr
    · obtain ⟨ad, rfl, rfl⟩ := hr
      obtain ⟨cur, hb⟩ := own_blk2 h.own1.1
      rcases hk with rfl | rfl | ⟨q, hq⟩
      · have := hb.symm.trans h.row
        injection this with this; injection this with _ this _
        exact absurd this (by decide)
      · obtain ⟨es, clock, h'⟩ := hmap
        have := hb.symm.trans h'
        cases this
      · have := hb.symm.trans (h.leaf q _ hq).1
        injection this with this; injection this with _ this _
        exact absurd this (by decide)
    · obtain ⟨ad, rfl, rfl⟩ := hr
      obtain ⟨cur, hb⟩ := own_blk2 h.own2.1
      rcases hk with rfl | rfl | ⟨q, hq⟩
      · have := hb.symm.trans h.row
        injection this with this; injection this with _ this _
        exact absurd this (by decide)
      · obtain ⟨es, clock, h'⟩ := hmap
        have := hb.symm.trans h'
        cases this
      · have := hb.symm.trans (h.leaf q _ hq).1
        injection this with this; injection this with _ this _
        exact absurd this (by decide)
    · have := hr.2; omega
/-- what Clone tells -/
def ClonedM (R : Nat → Prop) (w : World) (M : PM) (e : Ending) (w' : World) : Prop :=
  Below w.heap.size w w' ∧ ∃ g Z' R', e = .returned (.pointer (some ⟨g, 0, none⟩)) ∧ Mach Z' R' w' g { M with loads := 0, stores := 0, strays := 0 } ∧ (∀ k, Z' k → w.heap.size ≤ k ∧ k < w'.heap.size) ∧ ∀ k, R' k → (R k ∧ k < w.heap.size) ∨ (w.heap.size ≤ k ∧ k < w'.heap.size)
theorem CloneI.said {Z R : Nat → Prop} {w : World} {g0 : Nat} {M : PM} {A1 A2 Ao : Option Addr} {c1 c2 no co b : Nat} {pm : Nat → Option Nat} {sp : Sp.S} (hm : MachAt Z R w g0 M A1 A2 Ao c1 c2 no co b pm sp)
    {n1 n2 g mb d1 d2 : Nat} {E1 E2 : Option Addr} {pn : Nat → Option Nat} {lf : Nat → Bool} {wr : World} (h : CloneI w M pm n1 n2 Ao no co g mb E1 E2 d1 d2 pn lf wr) (h1 : M.rams.length = n1) (h2 : M.devs.length = n2) (hl : ∀ k, lf k = false) :
    ClonedM R w M (.returned (.pointer (some ⟨g, 0, none⟩))) wr := by
  refine ⟨h.bel, g, _, _, rfl, h.mach hm h1 h2 hl, fun k hk => ?_, fun k hk => ?_⟩
  · rcases hk with rfl | rfl | ⟨q, hq⟩
    · exact ⟨h.geg, h.row.lt⟩
    · exact ⟨h.gem, h.map.lt⟩
    · exact ⟨(h.leaf q k hq).2, (h.leaf q k hq).1.lt⟩
  · rcases hk with ⟨ad, e, rfl⟩ | ⟨ad, e, rfl⟩ | hk
    · exact .inr (h.own1.adr ad e)
    · exact .inr (h.own2.adr ad e)
    · exact .inl hk
/-- new blocks, or the iterator turned -/
theorem CloneI.kept {w : World} {M : PM} {pm : Nat → Option Nat} {n1 n2 : Nat} {Ao : Option Addr} {no co g mb : Nat} {E1 E2 : Option Addr} {d1 d2 : Nat} {pn : Nat → Option Nat} {lf : Nat → Bool} {wr wx : World} {r : Nat} {o : Obj} (h : CloneI w M pm n1 n2 Ao no co g mb E1 E2 d1 d2 pn lf wr) (hc : ChgP (fun k => k = r) wr wx) (hr : w.heap.size ≤ r) (ho : wr.heap.size ≤ r ∨ wr.heap[r]? = some o) (hn1 : ∀ cs t z, o ≠ .cells cs t z) (hn2 : ∀ es c, o ≠ .map es c) :
    CloneI w M pm n1 n2 Ao no co g mb E1 E2 d1 d2 pn lf wx := by
  have hne : ∀ k cs t z, wr.heap[k]? = some (.cells cs t z) → ¬ k = r := fun k cs t z h1 e => by
    subst e
    rcases ho with ho | ho
    · rw [Array.getElem?_eq_none ho] at h1; cases h1
    · rw [ho] at h1; injection h1 with h1; exact hn1 _ _ _ h1
  have hnm : mb ≠ r := by
    rintro rfl
    obtain ⟨⟨D, n, ⟨es, clock, hb, _⟩, _⟩, _⟩ := h.map
    rcases ho with ho | ho
    · rw [Array.getElem?_eq_none ho] at hb; cases hb
    · rw [ho] at hb; injection hb with hb; exact hn2 _ _ hb
  have hown : ∀ {A n c bs}, BR.Own wr w.heap.size A n c bs → BR.Own wx w.heap.size A n c bs := fun {A n c bs} ho' => ⟨by
    have hcc : Chg [r] wr wx := ⟨hc.os, hc.tape, hc.output, hc.size, fun k hk hnk => hc.block k hk (fun e => hnk (by simp [e]))⟩
    refine owns_chgr ho'.1 hcc (fun k hk hmem => ?_)
    obtain ⟨cur, hb⟩ := own_blkr ho'.1 k hk
    exact hne k _ _ _ hb (by simpa using hmem), ho'.2⟩
  exact ⟨hc.row h.row (hne _ _ _ _ h.row), hown h.own1, hown h.own2, h.cap1, h.cap2, h.map.same (hc.block mb h.map.lt hnm), fun k p hp => ⟨hc.row (h.leaf k p hp).1 (hne _ _ _ _ (h.leaf k p hp).1), (h.leaf k p hp).2⟩, h.inj, h.come, h.bel.trans (hc.below h.bel.size (fun x hx => by subst hx; exact hr)), h.geg, h.gem⟩
/-- a page has been cloned -/
theorem CloneI.put {w : World} {M : PM} {pm : Nat → Option Nat} {n1 n2 : Nat} {Ao : Option Addr} {no co g mb : Nat} {E1 E2 : Option Addr} {d1 d2 : Nat} {pn : Nat → Option Nat} {lf : Nat → Bool} {w6 w7 : World} {k q : Nat} {V : List Value} (h : CloneI w M pm n1 n2 Ao no co g mb E1 E2 d1 d2 pn lf w6)
    (hq : Row w6 q 148 V) (hV : V = leafRow M.mem k) (hqg : w.heap.size ≤ q) (hm7 : MapAt w7 mb (upd pn k (some q))) (ht : w6.mapTurned w7 mb) (hk : (pm k).isSome = true) (hfr : ∀ k', pn k' ≠ some q) :
    CloneI w M pm n1 n2 Ao no co g mb E1 E2 d1 d2 (upd pn k (some q)) (fun z => lf z && !decide (z = k)) w7 := by
  have hc := ChgP.turned ht
  have hown : ∀ {A n c bs}, BR.Own w6 w.heap.size A n c bs → BR.Own w7 w.heap.size A n c bs := fun {A n c bs} ho' => ⟨by
    have hcc : Chg [mb] w6 w7 := ⟨hc.os, hc.tape, hc.output, hc.size, fun k hk hnk => hc.block k hk (fun e => hnk (by simp [e]))⟩
    refine owns_chgr ho'.1 hcc (fun k hk hmem => ?_)
    obtain ⟨cur, hb⟩ := own_blkr ho'.1 k hk
    have e : k = mb := by simpa using hmem
    subst e
    obtain ⟨⟨_, _, ⟨_, _, hb', _⟩, _⟩, _⟩ := h.map
    have := hb.symm.trans hb'
    exact (by cases this), ho'.2⟩
  refine ⟨hc.row h.row (Row.ne_map h.row h.map), hown h.own1, hown h.own2, h.cap1, h.cap2, hm7, fun z p hp => ?_, fun z z' p h1 h2 => ?_, fun z => ?_, h.bel.trans (hc.below h.bel.size (fun x hx => by subst hx; exact h.gem)), h.geg, h.gem⟩
  · by_cases e : z = k
    · subst e
      rw [upd_same] at hp; injection hp with hp; subst hp
      exact ⟨by rw [← hV]; exact hc.row hq (Row.ne_map hq h.map), hqg⟩
    · rw [upd_other _ _ e] at hp
      obtain ⟨l1, l2⟩ := h.leaf z p hp
      exact ⟨hc.row l1 (Row.ne_map l1 h.map), l2⟩
  · by_cases e : z = k
    · by_cases e' : z' = k
      · rw [e, e']
      · rw [upd_other _ _ e'] at h2
        rw [e, upd_same] at h1; injection h1 with h1; subst h1
        exact absurd h2 (hfr z')
    · by_cases e' : z' = k
      · rw [upd_other _ _ e] at h1
        rw [e', upd_same] at h2; injection h2 with h2; subst h2
        exact absurd h1 (hfr z)
      · rw [upd_other _ _ e] at h1; rw [upd_other _ _ e'] at h2
        exact h.inj z z' p h1 h2
  · by_cases e : z = k
    · subst e
      rw [upd_same, hk, decide_eq_true rfl]; simp
    · rw [upd_other _ _ e, h.come, decide_eq_false e]; simp
theorem run_storeCells_row2 {P : Program} {w : World} {g : Nat} {ty t : TypeId} {cs V : List Value} (h : Row w g t cs) (hi : (P.info? ty).map (·.size) = some V.length) (ho : cs.length = V.length) (h1 : ∀ v ∈ V, v.oneCell' = true) :
    (storeCells ⟨g, 0, none⟩ V 0).run P w = .ok () (w.setRow g V.toArray) := by
  have := run_storeVar_row (P := P) w g t ty cs.toArray V.toArray h (by simpa using hi) (by simpa using ho) (all_oneCell_toArray h1)
  cases hq : P.info? ty with
  | none => simp [hq] at hi
  | some i =>
    have hs : i.size = V.length := by simp [hq] at hi; omega
    simpa [storeVar, sizeOf, typeInfo, hq, Value.cells, hs] using this
/-- the loop over the pages: how the iterator stands -/
def Iter (b r n : Nat) (D : DU) (lf : Nat → Bool) (cnt : Nat) (wr : World) : Prop := ∃ left : Lit → Bool, wr.ranges Try.prog 22 ptrR b r n D left cnt ∧ ∀ k, lf k = left (kl k)
end Bu
end Go.Proofs.Ytfpofaniicegaaa

/- The machine's calls in the words of its bus and its bytes. -/
set_option linter.unusedVariables false
set_option linter.unusedSimpArgs false
namespace Go.Proofs.Ytfpofaniicegaaa
open Go.RowKit
open S64
namespace Bu
/-- the first of n bytes that is off the bus -/
def OffIs (l : Sp.S) (a n : Nat) : Option Nat → Prop
  | none => ∀ p, a ≤ p → p < a + n → on l p = true
  | some q => a ≤ q ∧ q < a + n ∧ on l q = false ∧ q ≤ TOP ∧ ∀ p, a ≤ p → p < q → on l p = true
theorem OffIs.uniq {l : Sp.S} {a n : Nat} {F G : Option Nat} (h : OffIs l a n F) (k : OffIs l a n G) : F = G := by
  cases F with
  | none =>
    cases G with
    | none => rfl
    | some q => have := h q k.1 k.2.1; rw [k.2.2.1] at this; cases this
  | some p =>
    cases G with
    | none => have := k p h.1 h.2.1; rw [h.2.2.1] at this; cases this
    | some q =>
      rcases Nat.lt_trichotomy p q with hl | hl | hl
      · have := k.2.2.2.2 p h.1 hl; rw [h.2.2.1] at this; cases this
      · rw [hl]
      · have := h.2.2.2.2 q k.1 hl; rw [k.2.2.1] at this; cases this
theorem MachAt.off {Z R : Nat → Prop} {w : World} {g : Nat} {M : PM} {A1 A2 Ao : Option Addr} {c1 c2 no co b : Nat} {pm : Nat → Option Nat} {sp : Sp.S} (h : MachAt Z R w g M A1 A2 Ao c1 c2 no co b pm sp) {a n : Nat} (ha : a ≤ TOP) : OffIs (M.rams ++ M.devs) a n (offAt sp a n) := by
  have hon : ∀ p, p ≤ TOP → on (M.rams ++ M.devs) p = !Sp.has sp p := fun p hp => by rw [h.has p hp]; simp
  cases hF : offAt sp a n with
  | none =>
    intro p h1 h2
    have h64 := offAt_none h ha hF
    have hp : p ≤ TOP := by unfold TOP; omega
    rw [hon p hp]
    unfold offAt at hF
    cases hx : Sp.next sp a with
    | mk m o =>
      rw [hx] at hF
      cases o with
      | false =>
        rw [(Sp.next_none h.nrm.1 (show (Sp.next sp a).2 = false by rw [hx])).2 p h1]; rfl
      | true =>
        obtain ⟨g1, g2, g3⟩ := Sp.next_some h.nrm.1 hx
        have hm : ¬ m < a + n := fun hc => by rw [if_pos ⟨rfl, by omega, hc⟩] at hF; cases hF
        rw [g3 p h1 (by omega)]; rfl
  | some q =>
    unfold offAt at hF
    cases hx : Sp.next sp a with
    | mk m o =>
      rw [hx] at hF
      by_cases hc : o = true ∧ 0 < n ∧ m < a + n
      · rw [if_pos hc] at hF
        injection hF with hF
        simp only at hF
        subst hF
        obtain ⟨rfl, _, _⟩ := hc
        obtain ⟨g1, g2, g3⟩ := Sp.next_some h.nrm.1 hx
        have hmt := has_top h.nrm.1 g2
        exact ⟨g1, by omega, by rw [hon m hmt, g2]; rfl, hmt, fun p h1 h2 => by rw [hon p (by omega), g3 p h1 h2]; rfl⟩
      · rw [if_neg hc] at hF; cases hF
/-- A MACHINE: what may turn with it, and its lists, are there. -/
structure MZ (Z R : Nat → Prop) (w : World) (g : Nat) (M : PM) : Prop where
  m : Mach Z R w g M
  z : ∀ k, Z k → k < w.heap.size
  r : ∀ k, R k → k < w.heap.size
theorem Mach.count_le {Z R : Nat → Prop} {w : World} {g : Nat} {M : PM} (h : Mach Z R w g M) : True := trivial
theorem MachAt.mz {Z R : Nat → Prop} {w : World} {g : Nat} {M : PM} {A1 A2 Ao : Option Addr} {c1 c2 no co b : Nat} {pm : Nat → Option Nat} {sp : Sp.S} (h : MachAt Z R w g M A1 A2 Ao c1 c2 no co b pm sp) (hz : ∀ k, Z k → k < w.heap.size) (hr : ∀ k, R k → k < w.heap.size) : MZ Z R w g M := ⟨⟨_, _, _, _, _, _, _, _, _, _, h⟩, hz, hr⟩
/-- what turns elsewhere leaves it -/
theorem MZ.chg {Z R Y : Nat → Prop} {w w' : World} {g : Nat} {M : PM} (h : MZ Z R w g M) (hc : ChgP Y w w') (hY : ∀ k, Z k ∨ R k → ¬ Y k) : MZ Z R w' g M := ⟨h.m.chg hc hY, fun k hk => Nat.lt_of_lt_of_le (h.z k hk) hc.size, fun k hk => Nat.lt_of_lt_of_le (h.r k hk) hc.size⟩
theorem MZ.below {Z R : Nat → Prop} {w w' : World} {g : Nat} {M : PM} (h : MZ Z R w g M) (hb : Below w.heap.size w w') : MZ Z R w' g M := h.chg (Y := fun _ => False) (ChgP.of_below hb) (fun _ _ h => h)
theorem MZ.drew {Z R : Nat → Prop} {w : World} {g : Nat} {M : PM} (h : MZ Z R w g M) : MZ Z R w.drew g M := h.below (Below.refl _ _).drew
theorem MZ.lt {Z R : Nat → Prop} {w : World} {g : Nat} {M : PM} (h : MZ Z R w g M) : g < w.heap.size := by
  obtain ⟨_, _, _, _, _, _, _, _, _, _, h⟩ := h.m
  exact h.row.lt
/-- what a call that lays nothing leaves -/
def Quiet1 (Z R : Nat → Prop) (w : World) (g : Nat) (M' : PM) (w' : World) : Prop := MZ Z R w' g M' ∧ ChgP Z w w'
/-- what a call that lays bytes leaves: new pages are its own -/
def Laid1 (Z R : Nat → Prop) (w : World) (g : Nat) (M' : PM) (w' : World) : Prop := ∃ Z', MZ Z' R w' g M' ∧ ChgP Z w w' ∧ ∀ k, Z' k → Z k ∨ w.heap.size ≤ k
theorem load_m {Z R : Nat → Prop} {M : PM} {at_ n g : Nat} {w : World} (h : MZ Z R w g M) (hk : n = 1 ∨ n = 2 ∨ n = 4 ∨ n = 8) (ha : at_ ≤ TOP) (hs : True) (hl : True) {F : Option Nat} (hF : OffIs (M.rams ++ M.devs) at_ n F) :
    Calls Try.prog 116 #[.pointer (some ⟨g, 0, none⟩), .int .u64 (at_ : Nat), .int .i64 (n : Nat)] w fun e w' => e = .returned (.tuple #[.int .u64 (peekV M at_ n F : Nat), faultV F]) ∧ Quiet1 Z R w g (loadM M F) w' := by
  obtain ⟨_, _, _, _, _, _, _, _, _, _, hm⟩ := h.m
  have e := (hm.off (n := n) ha).uniq hF
  subst e
  exact (load_any Z R M _ _ _ _ _ _ _ _ _ _ at_ n g w hm hk ha hs hl).mono fun e w' hh => ⟨hh.1, hh.2.1.mz (fun k hk => Nat.lt_of_lt_of_le (h.z k hk) hh.2.2.size) (fun k hk => Nat.lt_of_lt_of_le (h.r k hk) hh.2.2.size), hh.2.2⟩
theorem load_bad_m {Z R : Nat → Prop} {M : PM} {at_ g : Nat} {z : Int} {w : World} (h : MZ Z R w g M) (hz : wideB z = false) (hl : True) :
    Calls Try.prog 116 #[.pointer (some ⟨g, 0, none⟩), .int .u64 (at_ : Nat), .int .i64 z] w fun e w' => e = .returned (.tuple #[.int .u64 (0 : Nat), .agg #[.int .i64 31, .int .u64 (at_ : Nat)]]) ∧ Quiet1 Z R w g M w' := by
  obtain ⟨_, _, _, _, _, _, _, _, _, _, hm⟩ := h.m
  exact (load_bad Z R M _ _ _ _ _ _ _ _ _ _ at_ g z w hm hz hl).mono fun e w' hh => ⟨hh.1, hh.2.1.mz (fun k hk => Nat.lt_of_lt_of_le (h.z k hk) hh.2.2.size) (fun k hk => Nat.lt_of_lt_of_le (h.r k hk) hh.2.2.size), hh.2.2⟩
theorem peek_m {Z R : Nat → Prop} {M : PM} {at_ n g : Nat} {w : World} (h : MZ Z R w g M) (hk : n = 1 ∨ n = 2 ∨ n = 4 ∨ n = 8) (ha : at_ ≤ TOP) (hs : True) {F : Option Nat} (hF : OffIs (M.rams ++ M.devs) at_ n F) :
    Calls Try.prog 33 #[.pointer (some ⟨g, 0, none⟩), .int .u64 (at_ : Nat), .int .i64 (n : Nat)] w fun e w' => e = .returned (.tuple #[.int .u64 (peekV M at_ n F : Nat), faultV F]) ∧ Quiet1 Z R w g (stray M F) w' := by
  obtain ⟨_, _, _, _, _, _, _, _, _, _, hm⟩ := h.m
  have e := (hm.off (n := n) ha).uniq hF
  subst e
  exact (peek_any Z R M _ _ _ _ _ _ _ _ _ _ at_ n g w hm hk ha hs).mono fun e w' hh => ⟨hh.1, hh.2.1.mz (fun k hk => Nat.lt_of_lt_of_le (h.z k hk) hh.2.2.size) (fun k hk => Nat.lt_of_lt_of_le (h.r k hk) hh.2.2.size), hh.2.2⟩
/-- n bytes -/
def memB (mem : Nat → Nat) (a n : Nat) : List Nat := (List.range n).map fun i => mem (a + i)
theorem memB_len (mem : Nat → Nat) (a n : Nat) : (memB mem a n).length = n := by simp [memB]
theorem memB_get (mem : Nat → Nat) (a n i : Nat) (hi : i < n) : (memB mem a n)[i]? = some (mem (a + i)) := by
  rw [memB, List.getElem?_map, List.getElem?_range hi]; rfl
theorem memB_getD (mem : Nat → Nat) (a n i : Nat) (hi : i < n) : (memB mem a n).getD i 0 = mem (a + i) := by
  rw [List.getD_eq_getElem?_getD, memB_get _ _ _ _ hi]; rfl
theorem outB_memB (mem : Nat → Nat) (a n : Nat) : outB mem a n n = (memB mem a n).map u8 := by
  rw [outB, memB, List.map_map]
  refine List.map_congr_left fun i hi => ?_
  rw [if_pos (List.mem_range.1 hi)]; rfl
/-- what Read leaves -/
def Read1 (Z R : Nat → Prop) (w : World) (g : Nat) (M : PM) (at_ n : Nat) (F : Option Nat) (e : Ending) (w' : World) : Prop :=
  Quiet1 Z R w g (stray M F) w' ∧ match F with
  | some p => e = .returned (.tuple #[.slice none 0 0, faultV (some p)])
  | none => ∃ bb, e = .returned (.tuple #[.slice (some ⟨bb, 0, none⟩) n n, faultV none]) ∧ w.heap.size ≤ bb ∧ Row w' bb 5 ((memB M.mem at_ n).map u8) ∧ ∀ b ∈ memB M.mem at_ n, b < 256
theorem read_m {Z R : Nat → Prop} {M : PM} {at_ n g : Nat} {w : World} (h : MZ Z R w g M) (hn : n ≤ 9223372036854775807) (ha : at_ ≤ TOP) (hs : True) {F : Option Nat} (hF : OffIs (M.rams ++ M.devs) at_ n F) :
    Calls Try.prog 35 #[.pointer (some ⟨g, 0, none⟩), .int .u64 (at_ : Nat), .int .i64 (n : Nat)] w (Read1 Z R w g M at_ n F) := by
  obtain ⟨_, _, _, _, _, _, _, _, _, _, hm⟩ := h.m
  have e := (hm.off (n := n) ha).uniq hF
  subst e
  refine (read_any Z R M _ _ _ _ _ _ _ _ _ _ at_ n g w hm hn ha hs).mono fun e w' hh => ⟨⟨hh.1.mz (fun k hk => Nat.lt_of_lt_of_le (h.z k hk) hh.2.1.size) (fun k hk => Nat.lt_of_lt_of_le (h.r k hk) hh.2.1.size), hh.2.1⟩, ?_⟩
  rcases hh.2.2 with ⟨p, h1, h2⟩ | ⟨h1, bb, h2, h3, h4⟩
  · rw [h1]; exact h2
  · rw [h1]
    rw [outB_memB] at h4
    refine ⟨bb, h2, h3, h4, fun b hb => ?_⟩
    obtain ⟨i, _, rfl⟩ := List.mem_map.1 hb
    exact hm.byte _
theorem LaySaid.laid {Z R : Nat → Prop} {w : World} {g : Nat} {M M' : PM} {A1 A2 Ao : Option Addr} {x1 x2 no co b : Nat} {sp : Sp.S} {F : Option Nat} {e : Ending} {w' : World} (h : LaySaid Z R w g M' A1 A2 Ao x1 x2 no co b sp F e w') (hr : ∀ k, R k → k < w.heap.size) : e = .returned (faultV F) ∧ Laid1 Z R w g M' w' := by
  obtain ⟨h1, ⟨pm', hm⟩, hc⟩ := h
  refine ⟨h1, fun k => grow Z w k ∧ k < w'.heap.size, (hm.tight.mono (fun k hk => hk) (R' := R) (fun k hk => hk.1.1) (fun k hk hrk => ?_)).mz (fun k hk => hk.2) (fun k hk => Nat.lt_of_lt_of_le (hr k hk) hc.size), hc, fun k hk => hk.1⟩
  exact hm.dis k hk.1 ⟨hrk, hr k hrk⟩
theorem store_m {Z R : Nat → Prop} {M : PM} {at_ n g v : Nat} {w : World} (h : MZ Z R w g M) (hk : n = 1 ∨ n = 2 ∨ n = 4 ∨ n = 8) (hv : v ≤ TOP) (hst : True) (ha : at_ ≤ TOP) (hs : True) {F : Option Nat} (hF : OffIs (M.rams ++ M.devs) at_ n F) :
    Calls Try.prog 31 #[.pointer (some ⟨g, 0, none⟩), .int .u64 (at_ : Nat), .int .i64 (n : Nat), .int .u64 (v : Nat)] w fun e w' => e = .returned (faultV F) ∧ Laid1 Z R w g (laidM M at_ n (byteOf v) 1 F) w' := by
  obtain ⟨_, _, _, _, _, _, _, _, _, _, hm⟩ := h.m
  have e := (hm.off (n := n) ha).uniq hF
  subst e
  exact (store_any Z R M _ _ _ _ _ _ _ _ _ _ at_ n g v w hm hk hv hst ha hs).mono fun e w' hh => hh.laid (M := M) h.r
theorem ClonedM.mz {R : Nat → Prop} {w : World} {M : PM} {e : Ending} {w' : World} (h : ClonedM R w M e w') : Below w.heap.size w w' ∧ ∃ g Z' R', e = .returned (.pointer (some ⟨g, 0, none⟩)) ∧ MZ Z' R' w' g { M with loads := 0, stores := 0, strays := 0 } ∧ (∀ k, Z' k → w.heap.size ≤ k) ∧ ∀ k, R' k → (R k ∧ k < w.heap.size) ∨ w.heap.size ≤ k := by
  obtain ⟨hb, g, Z', R', he, hm, hz, hr⟩ := h
  exact ⟨hb, g, Z', R', he, ⟨hm, fun k hk => (hz k hk).2, fun k hk => by have := hb.size; rcases hr k hk with h | h <;> omega⟩, fun k hk => (hz k hk).1, fun k hk => by rcases hr k hk with h | h; exact .inl h; exact .inr h.1⟩
/-- what New has made -/
theorem NewSaid.mz {w : World} {rams devs : Sp.S} {e : Ending} {w' : World} (h : NewSaid w rams devs e w') (h0 : newE rams devs = 0) : Below w.heap.size w w' ∧ ∃ g Z R, e = .returned (.tuple #[.pointer (some ⟨g, 0, none⟩), .int .i64 0]) ∧ MZ Z R w' g ⟨rams, devs, fun _ => 0, 0, 0, 0⟩ ∧ ∀ k, Z k ∨ R k → w.heap.size ≤ k := by
  obtain ⟨hb, h | ⟨_, g, Z, R, he, hm, hzr⟩⟩ := h
  · exact absurd h0 h.1
  · exact ⟨hb, g, Z, R, he, ⟨hm, fun k hk => (hzr k (.inl hk)).2, fun k hk => (hzr k (.inr hk)).2⟩, fun k hk => (hzr k hk).1⟩
end Bu
end Go.Proofs.Ytfpofaniicegaaa

/- The walk of the law BusNames. -/
set_option linter.unusedVariables false
set_option linter.unusedSimpArgs false
namespace Go.Proofs.Ytfpofaniicegaaa
open Go.RowKit
open S64
namespace Bu
theorem isS_row {w : World} {g n : Nat} {t : TypeId} {s : Sp.S} (h : Row w g t (s.map scell).flatten) (hn : s.length = n) (hl : n ≤ 1000) : IsS w w.heap.size (some ⟨g, 0, none⟩) n s := by
  have hle := flat_len (s := 2) (s.map scell) (scell_len s)
  rw [List.length_map, hn] at hle
  refine ⟨⟨by rw [hle, Nat.mul_comm], fun _ => ⟨_, rfl, h.lt, fun j u hu => ?_⟩⟩, hn, by omega⟩
  rw [Addr.add_mid, Nat.zero_add, h.cell]; exact hu
/-- a block that is none of the machine's stays -/
theorem Laid1.row {Z R : Nat → Prop} {w w' : World} {g g' : Nat} {M : PM} {t : TypeId} {cs : List Value} (h : Laid1 Z R w g M w') (hr : Row w g' t cs) (hz : ¬ Z g') : Row w' g' t cs := by
  obtain ⟨Z', _, hc, _⟩ := h
  exact hc.row hr hz
def nR : Sp.S := [(4096, 8192)]
def nD : Sp.S := [(12288, 4096)]
def nM1 : PM := ⟨nR, nD, fun _ => 0, 0, 0, 0⟩
def nM2 : PM := ⟨nR, nD, layM (fun _ => 0) 12284 8 (byteOf 18446744073709551615), 0, 1, 0⟩
def nM3 : PM := ⟨nR, nD, layM (fun _ => 0) 12284 8 (byteOf 18446744073709551615), 1, 1, 0⟩
def nM4 : PM := ⟨nR, nD, layM (fun _ => 0) 12284 8 (byteOf 18446744073709551615), 1, 1, 1⟩
theorem n_new : newE nR nD = 0 := by decide +kernel
theorem n_on {p : Nat} (h1 : 4096 ≤ p) (h2 : p < 16384) : on (nR ++ nD) p = true := by
  simp [on, nR, nD]; omega
theorem n_off : on (nR ++ nD) 16384 = false := by decide
theorem n_load : numB nM2.mem 12287 2 = 65535 := by decide +kernel
theorem n_where : spotF nM3 12290 3 = some (2, 0, 2) := by decide +kernel
theorem n_kept (k : Nat) : k ∈ [2, 3] ↔ nz nM4.mem k := by
  constructor
  · intro h
    rcases List.mem_cons.1 h with rfl | h
    · exact ⟨4092, by omega, by decide +kernel⟩
    · rw [List.mem_singleton.1 h]
      exact ⟨0, by omega, by decide +kernel⟩
  · rintro ⟨i, hi, hn⟩
    by_cases h : 12284 ≤ 4096 * k + i ∧ 4096 * k + i < 12284 + 8
    · simp; omega
    · exfalso
      apply hn
      simp only [nM4, layM]
      rw [if_neg h]
end Bu
end Go.Proofs.Ytfpofaniicegaaa

/- Plain law: what an entry says at a level, the entry that says it, and that each is the other's inverse. No program in sight. -/
set_option linter.unusedVariables false
set_option linter.unusedSimpArgs false
namespace Go.Proofs.Ytfpofaniicegaaa.Ent
/-- an entry's parts: frame, table, big, write, exec -/
structure E where
  F : Nat
  t : Bool
  b : Bool
  w : Bool
  x : Bool
deriving DecidableEq
def zero : E := ⟨0, false, false, false, false⟩
def frame (e : Nat) : Nat := e / 4096 % 1048576 * 4096
def bit (e k : Nat) : Bool := decide (e / k % 2 = 1)
/-- the parts are there, but do they fit the level? -/
def wrong (F : Nat) (lv : Nat) (b w x : Bool) : Bool := (b && (decide (lv ≠ 1) || decide (F % 2097152 ≠ 0))) || (decide (lv < 2) && !b && (w || x))
def say (e lv : Nat) : E × Nat :=
  if e % 2 = 0 then (zero, 41) else
  if e ≠ frame e + e % 16 then (zero, 42) else
  if wrong (frame e) lv (bit e 8) (bit e 2) (bit e 4) then (zero, 42) else (⟨frame e, decide (lv < 2) && !bit e 8, bit e 8, bit e 2, bit e 4⟩, 0)
def num (y : E) : Nat := (((y.F ||| 1) ||| (if y.w then 2 else 0)) ||| (if y.x then 4 else 0)) ||| (if y.b then 8 else 0)
def make (y : E) (lv : Nat) : Nat × Nat := if say (num y) lv = (y, 0) then (num y, 0) else (0, 42)

theorem frame_lt (e : Nat) : frame e < 4294967296 := by unfold frame; omega
theorem frame_of (e : Nat) : frame e = (e / 4096 % 1048576) <<< 12 := by unfold frame; rw [Nat.shiftLeft_eq]
theorem tb_frame (e i : Nat) : (frame e).testBit i = (decide (12 ≤ i) && decide (i < 32) && e.testBit i) := by
  rw [frame_of, Nat.testBit_shiftLeft]
  rw [show (1048576 : Nat) = 2 ^ 20 from rfl, Nat.testBit_mod_two_pow, show (4096 : Nat) = 2 ^ 12 from rfl, Nat.testBit_div_two_pow]
  by_cases h : 12 ≤ i
  · rw [show i - 12 + 12 = i by omega]
    by_cases h2 : i < 32
    · simp [h, h2, show i - 12 < 20 by omega]
    · simp [h, h2, show ¬ i - 12 < 20 by omega]
  · simp [h]
theorem and_frame (e : Nat) : e &&& 4294963200 = frame e := by
  apply Nat.eq_of_testBit_eq
  intro i
  rw [Nat.testBit_and, tb_frame]
  have h : (4294963200 : Nat) = (2 ^ 20 - 1) <<< 12 := rfl
  rw [h, Nat.testBit_shiftLeft, Nat.testBit_two_pow_sub_one]
  by_cases h1 : 12 ≤ i <;> by_cases h2 : i < 32
  · simp [h1, h2, show i - 12 < 20 by omega]
  · simp [h1, h2, show ¬ i - 12 < 20 by omega]
  · simp [h1]
  · simp [h1]
theorem and_pow (e k : Nat) : e &&& 2 ^ k = e / 2 ^ k % 2 * 2 ^ k := by
  apply Nat.eq_of_testBit_eq
  intro i
  rw [← Nat.shiftLeft_eq, Nat.testBit_and, Nat.testBit_two_pow, Nat.testBit_shiftLeft, show e / 2 ^ k % 2 = e / 2 ^ k % 2 ^ 1 from rfl, Nat.testBit_mod_two_pow, Nat.testBit_div_two_pow]
  by_cases h : k = i
  · subst h; simp
  · by_cases h2 : k ≤ i
    · simp [h, show ¬ i - k < 1 by omega]
    · simp [h, h2]
theorem and2 (e : Nat) : e &&& 2 = e / 2 % 2 * 2 := and_pow e 1
theorem and4 (e : Nat) : e &&& 4 = e / 4 % 2 * 4 := and_pow e 2
theorem and8 (e : Nat) : e &&& 8 = e / 8 % 2 * 8 := and_pow e 3
theorem and_mask (e : Nat) : e &&& 4294963215 = frame e + e % 16 := by
  have h1 : frame e + e % 16 = 2 ^ 12 * (e / 4096 % 1048576) + e % 16 := by unfold frame; omega
  rw [h1]
  apply Nat.eq_of_testBit_eq
  intro i
  rw [Nat.testBit_two_pow_mul_add _ (by omega), Nat.testBit_and]
  have h : (4294963215 : Nat) = 2 ^ 12 * (2 ^ 20 - 1) + (2 ^ 4 - 1) := rfl
  rw [h, Nat.testBit_two_pow_mul_add _ (by decide), Nat.testBit_two_pow_sub_one, Nat.testBit_two_pow_sub_one]
  by_cases h1 : i < 12
  · rw [if_pos h1, if_pos h1, show (16 : Nat) = 2 ^ 4 from rfl, Nat.testBit_mod_two_pow, Bool.and_comm]
  · rw [if_neg h1, if_neg h1, show (1048576 : Nat) = 2 ^ 20 from rfl, Nat.testBit_mod_two_pow, show (4096 : Nat) = 2 ^ 12 from rfl, Nat.testBit_div_two_pow, show i - 12 + 12 = i by omega, Bool.and_comm]
/-- the bits that say nothing -/
theorem rest_zero (e : Nat) (h : e < 18446744073709551616) : (e &&& (18446744073709551615 - 4294963215) = 0) ↔ e = frame e + e % 16 := by
  rw [← and_mask]
  have key : ∀ i, (e &&& (18446744073709551615 - 4294963215)).testBit i = (e.testBit i && !(4294963215 : Nat).testBit i) := by
    intro i
    rw [Nat.testBit_and]
    by_cases hi : i < 64
    · congr 1
      have : ∀ j : Fin 64, ((18446744073709551615 - 4294963215 : Nat)).testBit j.val = !(4294963215 : Nat).testBit j.val := by decide
      exact this ⟨i, hi⟩
    · rw [Nat.testBit_lt_two_pow (x := e) (Nat.lt_of_lt_of_le h (Nat.pow_le_pow_right (n := 2) (by decide) (show 64 ≤ i by omega)))]
      simp
  constructor
  · intro h0
    apply Nat.eq_of_testBit_eq
    intro i
    have := key i
    rw [h0, Nat.zero_testBit] at this
    rw [Nat.testBit_and]
    cases he : e.testBit i
    · simp
    · rw [he] at this; simp at this; rw [this]; rfl
  · intro h1
    apply Nat.eq_of_testBit_eq
    intro i
    rw [key, Nat.zero_testBit]
    have := congrArg (Nat.testBit · i) h1
    simp only [Nat.testBit_and] at this
    cases he : e.testBit i
    · simp
    · rw [he] at this; simp at this; rw [this]; simp
theorem num_tb (y : E) (i : Nat) : (num y).testBit i = (y.F.testBit i || decide (i = 0) || (y.w && decide (i = 1)) || (y.x && decide (i = 2)) || (y.b && decide (i = 3))) := by
  unfold num
  rw [Nat.testBit_or, Nat.testBit_or, Nat.testBit_or, Nat.testBit_or]
  have h1 : (1 : Nat).testBit i = decide (i = 0) := by
    have := Nat.testBit_two_pow (n := 0) (m := i); rw [show (1 : Nat) = 2 ^ 0 from rfl, this]; simp [eq_comm]
  have h2 : (if y.w = true then 2 else 0 : Nat).testBit i = (y.w && decide (i = 1)) := by
    cases y.w
    · simp
    · have := Nat.testBit_two_pow (n := 1) (m := i); rw [if_pos rfl, show (2 : Nat) = 2 ^ 1 from rfl, this]; simp [eq_comm]
  have h3 : (if y.x = true then 4 else 0 : Nat).testBit i = (y.x && decide (i = 2)) := by
    cases y.x
    · simp
    · have := Nat.testBit_two_pow (n := 2) (m := i); rw [if_pos rfl, show (4 : Nat) = 2 ^ 2 from rfl, this]; simp [eq_comm]
  have h4 : (if y.b = true then 8 else 0 : Nat).testBit i = (y.b && decide (i = 3)) := by
    cases y.b
    · simp
    · have := Nat.testBit_two_pow (n := 3) (m := i); rw [if_pos rfl, show (8 : Nat) = 2 ^ 3 from rfl, this]; simp [eq_comm]
  rw [h1, h2, h3, h4]
theorem bit_tb (e k : Nat) : bit e (2 ^ k) = e.testBit k := by
  unfold bit; rw [Nat.testBit_eq_decide_div_mod_eq]
/-- what an entry says is made into that entry again -/
theorem back {e lv : Nat} {y : E} (h : e < 18446744073709551616) (hs : say e lv = (y, 0)) : num y = e := by
  unfold say at hs
  split at hs
  · simp at hs
  · rename_i h2
    split at hs
    · simp at hs
    · rename_i h3
      split at hs
      · simp at hs
      · simp at hs
        subst hs
        have h3 : e &&& 4294963215 = e := by rw [and_mask]; omega
        apply Nat.eq_of_testBit_eq
        intro i
        rw [num_tb]
        simp only
        rw [tb_frame, show (8 : Nat) = 2 ^ 3 from rfl, show (2 : Nat) = 2 ^ 1 from rfl, show (4 : Nat) = 2 ^ 2 from rfl, bit_tb, bit_tb, bit_tb]
        have hi := congrArg (Nat.testBit · i) h3
        simp only [Nat.testBit_and] at hi
        have hm : (4294963215 : Nat).testBit i = (decide (i < 4) || (decide (12 ≤ i) && decide (i < 32))) := by
          have h : (4294963215 : Nat) = 2 ^ 12 * (2 ^ 20 - 1) + (2 ^ 4 - 1) := rfl
          rw [h, Nat.testBit_two_pow_mul_add _ (by decide), Nat.testBit_two_pow_sub_one, Nat.testBit_two_pow_sub_one]
          by_cases h1 : i < 12
          · rw [if_pos h1]; simp [show ¬ 12 ≤ i by omega]
          · rw [if_neg h1]; simp [show ¬ i < 4 by omega, show 12 ≤ i by omega]; omega
        rw [hm] at hi
        have h0 : e.testBit 0 = true := by rw [Nat.testBit_zero]; simp; omega
        by_cases i0 : i = 0
        · subst i0; simp [h0]
        by_cases i1 : i = 1
        · subst i1; simp
        by_cases i2 : i = 2
        · subst i2; simp
        by_cases i3 : i = 3
        · subst i3; simp
        simp [i0, i1, i2, i3]
        simp [show ¬ i < 4 by omega] at hi
        by_cases ha : 12 ≤ i <;> by_cases hb : i < 32
        · simp [ha, hb]
        · simp [hb] at hi; simp [hb, hi]
        · simp [ha] at hi; simp [ha, hi]
        · simp [ha] at hi; simp [ha, hi]
theorem make_back {e lv : Nat} {y : E} (h : e < 18446744073709551616) (hs : say e lv = (y, 0)) : make y lv = (e, 0) := by
  unfold make
  rw [back h hs, if_pos hs]
theorem say_lt {e lv : Nat} {y : E} (hs : say e lv = (y, 0)) : y.F < 4294967296 := by
  unfold say at hs
  split at hs
  · simp at hs
  · split at hs
    · simp at hs
    · split at hs
      · simp at hs
      · simp at hs; subst hs; exact frame_lt e
theorem make_one : make ⟨4194304, false, true, false, true⟩ 1 = (4194317, 0) := by decide
theorem say_one : say 20483 2 = (⟨20480, false, false, true, false⟩, 0) := by decide
theorem num_lt {y : E} (h : y.F < 18446744073709551616) : num y < 18446744073709551616 := by
  unfold num
  refine Nat.or_lt_two_pow (n := 64) (Nat.or_lt_two_pow (n := 64) (Nat.or_lt_two_pow (n := 64) (Nat.or_lt_two_pow (n := 64) h (by decide)) ?_) ?_) ?_ <;> split <;> decide
end Go.Proofs.Ytfpofaniicegaaa.Ent
