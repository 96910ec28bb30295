/- The walk of a machine's Clone. -/
import Derived.Test.YtmhkmemaneopeaaBuN
import Derived.Maps.RangeWalk
set_option linter.unusedVariables false
set_option linter.unusedSimpArgs false
namespace Go.Proofs.Ytmhkmemaneopeaa
open Go.RowKit
open S64
namespace Bu
/-- what holds while a machine is cloned; lf: which pages are still to come -/
structure CloneI (w : World) (M : PM) (pm : Nat → Option Nat) (n1 n2 : Nat) (Ao : Option Addr) (no co : Nat) (g mb : Nat) (E1 E2 : Option Addr) (d1 d2 : Nat) (pn : Nat → Option Nat) (lf : Nat → Bool) (wr : World) : Prop where
  row : Row wr g 70 [.int .i64 0, .int .i64 0, .int .i64 0, .slice E1 n1 d1, .slice E2 n2 d2, .slice Ao no co, .map (some mb)]
  own1 : BR.Own wr w.heap.size E1 n1 d1 M.rams
  own2 : BR.Own wr w.heap.size E2 n2 d2 M.devs
  cap1 : n1 ≤ d1 ∧ d1 ≤ 9223372036854775807
  cap2 : n2 ≤ d2 ∧ d2 ≤ 9223372036854775807
  map : MapAt wr mb pn
  leaf : ∀ k p, pn k = some p → Row wr p 106 (leafRow M.mem k) ∧ w.heap.size ≤ p
  inj : ∀ k k' p, pn k = some p → pn k' = some p → k = k'
  come : ∀ k, (pn k).isSome = ((pm k).isSome && !lf k)
  bel : Below w.heap.size w wr
  geg : w.heap.size ≤ g
  gem : w.heap.size ≤ mb
theorem ptrD_inj {a b : Option Nat} (h : ptrD a = ptrD b) : a = b := by
  cases a <;> cases b
  · rfl
  · cases h
  · cases h
  · simp only [ptrD] at h
    injection h with h; injection h with _ h
    rw [Int.ofNat.inj h]
theorem ptrR_form {v : Value} {y : DU × List MemPlace} (h : ptrR v = some y) : ∃ c : Option Nat, v = ptrV c ∧ y = (ptrD c, []) := by
  unfold ptrR at h
  split at h
  · injection h with h; exact ⟨none, rfl, h.symm⟩
  · rename_i p
    injection h with h; exact ⟨some p, rfl, h.symm⟩
  · cases h
theorem kl_form {key : Value} {l : Lit} (h : keyOf Try.prog 25 key = some l) : ∃ k : Nat, k ≤ TOP ∧ key = .int .u64 (k : Nat) ∧ l = kl k := by
  obtain ⟨x, rfl, rfl, hw⟩ := Maps.keyOf_int_inv Try.underlying25 h
  have hb := bounds_u64 hw
  refine ⟨x.toNat, by unfold TOP; omega, ?_, ?_⟩
  · rw [show ((x.toNat : Nat) : Int) = x by omega]
  · unfold kl; rw [show ((x.toNat : Nat) : Int) = x by omega]
theorem kl_same (q k : Nat) : (kl q).sameKey (kl k) = decide (q = k) := by
  by_cases e : q = k
  · subst e; simp [kl, Lit.sameKey]
  · rw [Maps.sameKey_ne (kl_ne e), decide_eq_false e]
theorem ranges_has {w : World} {b r n cnt : Nat} {D : DU} {left : Lit → Bool} (h : w.ranges Try.prog 25 ptrR b r n D left cnt) {k : Nat} (hl : left (kl k) = true) : Maps.has D (kl k) = true := by
  obtain ⟨es, clock, since, seen, c0, hb, F, hs, hD, hit, h1, h2, h3, h4, h5⟩ := h
  obtain ⟨x, hx, he⟩ := h4 _ hl
  rw [hD, Maps.has_eq, List.any_eq_true]
  exact ⟨_, mem_sorted.2 (List.mem_map.2 ⟨x, hx, rfl⟩), by rw [he, kl_same]; simp⟩
/-- the pages are all there -/
theorem CloneI.mach {Z R : Nat → Prop} {w : World} {g0 : Nat} {M : PM} {A1 A2 Ao : Option Addr} {c1 c2 no co b : Nat} {pm : Nat → Option Nat} {sp : Sp.S} (hm : MachAt Z R w g0 M A1 A2 Ao c1 c2 no co b pm sp)
    {n1 n2 g mb d1 d2 : Nat} {E1 E2 : Option Addr} {pn : Nat → Option Nat} {lf : Nat → Bool} {wr : World} (h : CloneI w M pm n1 n2 Ao no co g mb E1 E2 d1 d2 pn lf wr) (h1 : M.rams.length = n1) (h2 : M.devs.length = n2) (hl : ∀ k, lf k = false) :
    Mach (fun k => k = g ∨ k = mb ∨ ∃ q, pn q = some k) (fun k => (∃ ad, E1 = some ad ∧ ad.block = k) ∨ (∃ ad, E2 = some ad ∧ ad.block = k) ∨ (R k ∧ k < w.heap.size)) wr g { M with loads := 0, stores := 0, strays := 0 } := by
  subst h1; subst h2
  have hmap : ∃ es clock, wr.heap[mb]? = some (.map es clock) := by
    obtain ⟨⟨D, n, ⟨es, clock, hb, _⟩, _⟩, _⟩ := h.map
    exact ⟨es, clock, hb⟩
  have hiff : ∀ k, (pn k).isSome = (pm k).isSome := fun k => by rw [h.come, hl k]; simp
  refine ⟨E1, E2, Ao, d1, d2, no, co, mb, pn, sp, ⟨h.row, .inl rfl, .inr (.inl rfl), ⟨h.own1.isS, h.cap1.1, h.cap1.2, fun ad e _ => .inl ⟨ad, e, rfl⟩⟩, ⟨h.own2.isS, h.cap2.1, h.cap2.2, fun ad e _ => .inr (.inl ⟨ad, e, rfl⟩)⟩, ?_, hm.nrm, hm.has, hm.lim, h.map, fun k p hp => ?_, h.inj, fun k hk => ?_, hm.byte, ?_⟩⟩
  · have := hm.tight.lo.chg (ChgP.of_below (Z := fun _ => False) h.bel) (fun _ _ h => h)
    exact this.mono (fun k hk => .inr (.inr hk))
  · obtain ⟨l1, l2⟩ := h.leaf k p hp
    refine ⟨l1, .inr (.inr ⟨k, hp⟩), (hm.some_iff k).1 ?_⟩
    rw [← hiff, hp]; rfl
  · refine hm.zero k ?_
    have := hiff k
    rw [hk] at this
    cases hpk : pm k with
    | none => rfl
    | some p => rw [hpk] at this; cases this
  · intro k hk hr
    have hge : w.heap.size ≤ k := by
      rcases hk with rfl | rfl | ⟨q, hq⟩
      · exact h.geg
      · exact h.gem
      · exact (h.leaf q k hq).2
    rcases hr with hr | hr | hr
    · obtain ⟨ad, rfl, rfl⟩ := hr
      obtain ⟨cur, hb⟩ := own_blk2 h.own1.1
      rcases hk with rfl | rfl | ⟨q, hq⟩
      · have := hb.symm.trans h.row
        injection this with this; injection this with _ this _
        exact absurd this (by decide)
      · obtain ⟨es, clock, h'⟩ := hmap
        have := hb.symm.trans h'
        cases this
      · have := hb.symm.trans (h.leaf q _ hq).1
        injection this with this; injection this with _ this _
        exact absurd this (by decide)
    · obtain ⟨ad, rfl, rfl⟩ := hr
      obtain ⟨cur, hb⟩ := own_blk2 h.own2.1
      rcases hk with rfl | rfl | ⟨q, hq⟩
      · have := hb.symm.trans h.row
        injection this with this; injection this with _ this _
        exact absurd this (by decide)
      · obtain ⟨es, clock, h'⟩ := hmap
        have := hb.symm.trans h'
        cases this
      · have := hb.symm.trans (h.leaf q _ hq).1
        injection this with this; injection this with _ this _
        exact absurd this (by decide)
    · have := hr.2; omega
/-- what Clone tells -/
def ClonedM (R : Nat → Prop) (w : World) (M : PM) (e : Ending) (w' : World) : Prop :=
  Below w.heap.size w w' ∧ ∃ g Z' R', e = .returned (.pointer (some ⟨g, 0, none⟩)) ∧ Mach Z' R' w' g { M with loads := 0, stores := 0, strays := 0 } ∧ (∀ k, Z' k → w.heap.size ≤ k ∧ k < w'.heap.size) ∧ ∀ k, R' k → (R k ∧ k < w.heap.size) ∨ (w.heap.size ≤ k ∧ k < w'.heap.size)
theorem CloneI.said {Z R : Nat → Prop} {w : World} {g0 : Nat} {M : PM} {A1 A2 Ao : Option Addr} {c1 c2 no co b : Nat} {pm : Nat → Option Nat} {sp : Sp.S} (hm : MachAt Z R w g0 M A1 A2 Ao c1 c2 no co b pm sp)
    {n1 n2 g mb d1 d2 : Nat} {E1 E2 : Option Addr} {pn : Nat → Option Nat} {lf : Nat → Bool} {wr : World} (h : CloneI w M pm n1 n2 Ao no co g mb E1 E2 d1 d2 pn lf wr) (h1 : M.rams.length = n1) (h2 : M.devs.length = n2) (hl : ∀ k, lf k = false) :
    ClonedM R w M (.returned (.pointer (some ⟨g, 0, none⟩))) wr := by
  refine ⟨h.bel, g, _, _, rfl, h.mach hm h1 h2 hl, fun k hk => ?_, fun k hk => ?_⟩
  · rcases hk with rfl | rfl | ⟨q, hq⟩
    · exact ⟨h.geg, h.row.lt⟩
    · exact ⟨h.gem, h.map.lt⟩
    · exact ⟨(h.leaf q k hq).2, (h.leaf q k hq).1.lt⟩
  · rcases hk with ⟨ad, e, rfl⟩ | ⟨ad, e, rfl⟩ | hk
    · exact .inr (h.own1.adr ad e)
    · exact .inr (h.own2.adr ad e)
    · exact .inl hk
/-- new blocks, or the iterator turned -/
theorem CloneI.kept {w : World} {M : PM} {pm : Nat → Option Nat} {n1 n2 : Nat} {Ao : Option Addr} {no co g mb : Nat} {E1 E2 : Option Addr} {d1 d2 : Nat} {pn : Nat → Option Nat} {lf : Nat → Bool} {wr wx : World} {r : Nat} {o : Obj} (h : CloneI w M pm n1 n2 Ao no co g mb E1 E2 d1 d2 pn lf wr) (hc : ChgP (fun k => k = r) wr wx) (hr : w.heap.size ≤ r) (ho : wr.heap.size ≤ r ∨ wr.heap[r]? = some o) (hn1 : ∀ cs t z, o ≠ .cells cs t z) (hn2 : ∀ es c, o ≠ .map es c) :
    CloneI w M pm n1 n2 Ao no co g mb E1 E2 d1 d2 pn lf wx := by
  have hne : ∀ k cs t z, wr.heap[k]? = some (.cells cs t z) → ¬ k = r := fun k cs t z h1 e => by
    subst e
    rcases ho with ho | ho
    · rw [Array.getElem?_eq_none ho] at h1; cases h1
    · rw [ho] at h1; injection h1 with h1; exact hn1 _ _ _ h1
  have hnm : mb ≠ r := by
    rintro rfl
    obtain ⟨⟨D, n, ⟨es, clock, hb, _⟩, _⟩, _⟩ := h.map
    rcases ho with ho | ho
    · rw [Array.getElem?_eq_none ho] at hb; cases hb
    · rw [ho] at hb; injection hb with hb; exact hn2 _ _ hb
  have hown : ∀ {A n c bs}, BR.Own wr w.heap.size A n c bs → BR.Own wx w.heap.size A n c bs := fun {A n c bs} ho' => ⟨by
    have hcc : Chg [r] wr wx := ⟨hc.os, hc.tape, hc.output, hc.size, fun k hk hnk => hc.block k hk (fun e => hnk (by simp [e]))⟩
    refine owns_chgr ho'.1 hcc (fun k hk hmem => ?_)
    obtain ⟨cur, hb⟩ := own_blkr ho'.1 k hk
    exact hne k _ _ _ hb (by simpa using hmem), ho'.2⟩
  exact ⟨hc.row h.row (hne _ _ _ _ h.row), hown h.own1, hown h.own2, h.cap1, h.cap2, h.map.same (hc.block mb h.map.lt hnm), fun k p hp => ⟨hc.row (h.leaf k p hp).1 (hne _ _ _ _ (h.leaf k p hp).1), (h.leaf k p hp).2⟩, h.inj, h.come, h.bel.trans (hc.below h.bel.size (fun x hx => by subst hx; exact hr)), h.geg, h.gem⟩
/-- a page has been cloned -/
theorem CloneI.put {w : World} {M : PM} {pm : Nat → Option Nat} {n1 n2 : Nat} {Ao : Option Addr} {no co g mb : Nat} {E1 E2 : Option Addr} {d1 d2 : Nat} {pn : Nat → Option Nat} {lf : Nat → Bool} {w6 w7 : World} {k q : Nat} {V : List Value} (h : CloneI w M pm n1 n2 Ao no co g mb E1 E2 d1 d2 pn lf w6)
    (hq : Row w6 q 106 V) (hV : V = leafRow M.mem k) (hqg : w.heap.size ≤ q) (hm7 : MapAt w7 mb (upd pn k (some q))) (ht : w6.mapTurned w7 mb) (hk : (pm k).isSome = true) (hfr : ∀ k', pn k' ≠ some q) :
    CloneI w M pm n1 n2 Ao no co g mb E1 E2 d1 d2 (upd pn k (some q)) (fun z => lf z && !decide (z = k)) w7 := by
  have hc := ChgP.turned ht
  have hown : ∀ {A n c bs}, BR.Own w6 w.heap.size A n c bs → BR.Own w7 w.heap.size A n c bs := fun {A n c bs} ho' => ⟨by
    have hcc : Chg [mb] w6 w7 := ⟨hc.os, hc.tape, hc.output, hc.size, fun k hk hnk => hc.block k hk (fun e => hnk (by simp [e]))⟩
    refine owns_chgr ho'.1 hcc (fun k hk hmem => ?_)
    obtain ⟨cur, hb⟩ := own_blkr ho'.1 k hk
    have e : k = mb := by simpa using hmem
    subst e
    obtain ⟨⟨_, _, ⟨_, _, hb', _⟩, _⟩, _⟩ := h.map
    have := hb.symm.trans hb'
    exact (by cases this), ho'.2⟩
  refine ⟨hc.row h.row (Row.ne_map h.row h.map), hown h.own1, hown h.own2, h.cap1, h.cap2, hm7, fun z p hp => ?_, fun z z' p h1 h2 => ?_, fun z => ?_, h.bel.trans (hc.below h.bel.size (fun x hx => by subst hx; exact h.gem)), h.geg, h.gem⟩
  · by_cases e : z = k
    · subst e
      rw [upd_same] at hp; injection hp with hp; subst hp
      exact ⟨by rw [← hV]; exact hc.row hq (Row.ne_map hq h.map), hqg⟩
    · rw [upd_other _ _ e] at hp
      obtain ⟨l1, l2⟩ := h.leaf z p hp
      exact ⟨hc.row l1 (Row.ne_map l1 h.map), l2⟩
  · by_cases e : z = k
    · by_cases e' : z' = k
      · rw [e, e']
      · rw [upd_other _ _ e'] at h2
        rw [e, upd_same] at h1; injection h1 with h1; subst h1
        exact absurd h2 (hfr z')
    · by_cases e' : z' = k
      · rw [upd_other _ _ e] at h1
        rw [e', upd_same] at h2; injection h2 with h2; subst h2
        exact absurd h1 (hfr z)
      · rw [upd_other _ _ e] at h1; rw [upd_other _ _ e'] at h2
        exact h.inj z z' p h1 h2
  · by_cases e : z = k
    · subst e
      rw [upd_same, hk, decide_eq_true rfl]; simp
    · rw [upd_other _ _ e, h.come, decide_eq_false e]; simp
theorem run_storeCells_row2 {P : Program} {w : World} {g : Nat} {ty t : TypeId} {cs V : List Value} (h : Row w g t cs) (hi : (P.info? ty).map (·.size) = some V.length) (ho : cs.length = V.length) (h1 : ∀ v ∈ V, v.oneCell' = true) :
    (storeCells ⟨g, 0, none⟩ V 0).run P w = .ok () (w.setRow g V.toArray) := by
  have := run_storeVar_row (P := P) w g t ty cs.toArray V.toArray h (by simpa using hi) (by simpa using ho) (all_oneCell_toArray h1)
  cases hq : P.info? ty with
  | none => simp [hq] at hi
  | some i =>
    have hs : i.size = V.length := by simp [hq] at hi; omega
    simpa [storeVar, sizeOf, typeInfo, hq, Value.cells, hs] using this
/-- the loop over the pages: how the iterator stands -/
def Iter (b r n : Nat) (D : DU) (lf : Nat → Bool) (cnt : Nat) (wr : World) : Prop := ∃ left : Lit → Bool, wr.ranges Try.prog 25 ptrR b r n D left cnt ∧ ∀ k, lf k = left (kl k)
set_option maxRecDepth 100000 in
set_option maxHeartbeats 2000000 in
theorem clone_machine (Z R : Nat → Prop) (M : PM) (A1 A2 Ao : Option Addr) (x1 x2 no co b : Nat) (pm : Nat → Option Nat) (sp : Sp.S) (g : Nat) (w : World)
    (hm : MachAt Z R w g M A1 A2 Ao x1 x2 no co b pm sp) (b1 : M.rams.length ≤ 1000000) (b2 : M.devs.length ≤ 1000000) :
    Calls Try.prog 32 #[.pointer (some ⟨g, 0, none⟩)] w (ClonedM R w M) := by
  have HM := Lib.hid hm
  obtain ⟨n1, hn1⟩ : ∃ n1, n1 = M.rams.length := ⟨_, rfl⟩
  obtain ⟨n2, hn2⟩ : ∃ n2, n2 = M.devs.length := ⟨_, rfl⟩
  have hr := hm.row
  have h1 := hm.l1.1
  have h2 := hm.l2.1
  rw [← hn1, ← hn2] at hr
  rw [← hn1] at h1 b1
  rw [← hn2] at h2 b2
  have HTC : Hid (∀ wx, Below w.heap.size w wx → Calls Try.prog 36 #[.agg #[.slice A1 n1 x1, .slice A2 n2 x2]] wx (Twinned wx n1 n2 M.rams M.devs)) := Lib.hid (fun wx hb => twin_any A1 A2 n1 n2 x1 x2 M.rams M.devs wx ((h1.below hb).more hb.size) ((h2.below hb).more hb.size) b1 b2)
  obtain ⟨D, n, ho, hpg⟩ := hm.map.1
  obtain ⟨es, clock, hbl, hrest⟩ := id ho
  have HN1 := Lib.hid hn1.symm; have HN2 := Lib.hid hn2.symm
  have HO := Lib.hid ho; have HPG := Lib.hid hpg
  have HRW := Lib.hid hr
  have q0 := hr.cell 3
  have q1 := hr.cell 4
  have q2 := hr.cell 5
  have q3 := hr.cell 6
  have lg := hr.lt
  have lb : b < w.heap.size := hm.map.lt
  simp only [List.getElem?_cons_zero, List.getElem?_cons_succ] at q0 q1 q2 q3
  clear hm hr h1 h2 hn1 hn2 b1 b2 ho hpg hrest
  have hmm : ∀ (wx : World) (z : Int), (Instr.makeMap 68 (some (.int .i64 z))).run Try.prog wx = .ok (.map (some wx.heap.size)) (wx.alloc (.map #[] 0)) := fun wx z => by
    simp [Instr.makeMap, run_underlying Try.underlying68, asInt, asIntOf, Result.andThen]
  have hlen : ∀ wx : World, wx.heap[b]? = some (.map es clock) → (Builtin.len_ #[68] 3 #[.map (some b)]).run Try.prog wx = .ok (.int .i64 (es.size : Nat)) wx := fun wx hb => by
    simp [Builtin.len_, run_underlying Try.underlying68, MapKept.run_getObj_map hb, goInt, Result.andThen]
  have KAL : Hid (∀ wx, Below w.heap.size w wx → (wx.cell? ⟨g, 3, none⟩ = some (.slice A1 n1 x1) ∧ wx.cell? ⟨g, 4, none⟩ = some (.slice A2 n2 x2) ∧ wx.cell? ⟨g, 5, none⟩ = some (.slice Ao no co) ∧ wx.cell? ⟨g, 6, none⟩ = some (.map (some b)) ∧ wx.heap[b]? = some (.map es clock))) := Lib.hid (fun wx hb => ⟨(hb.cell (p := ⟨g, 3, none⟩) lg).trans q0, (hb.cell (p := ⟨g, 4, none⟩) lg).trans q1, (hb.cell (p := ⟨g, 5, none⟩) lg).trans q2, (hb.cell (p := ⟨g, 6, none⟩) lg).trans q3, (hb.block b lb).trans hbl⟩)
  go_enter Try.func32, Try.ntmps32
  go_upto_region 1 with fail
  go_region_held3 (fun w' => w'.cell? ⟨g, 3, none⟩ = some (.slice A1 n1 x1) ∧ w'.cell? ⟨g, 4, none⟩ = some (.slice A2 n2 x2) ∧ w'.cell? ⟨g, 5, none⟩ = some (.slice Ao no co) ∧ w'.cell? ⟨g, 6, none⟩ = some (.map (some b)) ∧ w'.heap[b]? = some (.map es clock))
    (first | exact ⟨q0, q1, q2, q3, hbl⟩ | exact KAL.out _ (by first | exact (Below.refl _ _).drew | exact ((Below.refl _ _).alloc (Nat.le_refl _) _).drew | exact HBT.out | exact HBT.out.alloc HBT.out.size _ | exact (((Below.refl _ _).alloc (Nat.le_refl _) _).alloc (by simp) _).drew | exact (HBT.out.alloc HBT.out.size _).alloc (HBT.out.alloc HBT.out.size _).size _))
    (first
      | (go_at_call 36; refine (HTC.out _ (by first | exact (Below.refl _ _).drew | exact ((Below.refl _ _).alloc (Nat.le_refl _) _).drew | exact HBT.out | exact HBT.out.alloc HBT.out.size _ | exact (((Below.refl _ _).alloc (Nat.le_refl _) _).alloc (by simp) _).drew | exact (HBT.out.alloc HBT.out.size _).alloc (HBT.out.alloc HBT.out.size _).size _)).mono ?_; rintro e wt ⟨E1, E2, d1, d2, rfl, ht⟩; have HT := Lib.hid ht; have HTB := Lib.hid ht.bel; have HBT : Hid (Below w.heap.size w wt) := Lib.hid (bel_chain (by first | exact (Below.refl _ _).drew | exact ((Below.refl _ _).alloc (Nat.le_refl _) _).drew | exact HBT.out | exact HBT.out.alloc HBT.out.size _ | exact (((Below.refl _ _).alloc (Nat.le_refl _) _).alloc (by simp) _).drew | exact (HBT.out.alloc HBT.out.size _).alloc (HBT.out.alloc HBT.out.size _).size _) ht.bel); clear ht))
  rename_i hh
  clear hh hmm hlen q0 q1 q2
  have hba : Below wt.heap.size wt ((wt.alloc (.map #[] 0)).alloc (.cells #[.int .i64 0, .int .i64 0, .int .i64 0, .slice E1 n1 d1, .slice E2 n2 d2, .slice Ao no co, .map (some wt.heap.size)] 70)) := ((Below.refl _ _).alloc (Nat.le_refl _) _).alloc (by simp) _
  have hmap0 : MapAt ((wt.alloc (.map #[] 0)).alloc (.cells #[.int .i64 0, .int .i64 0, .int .i64 0, .slice E1 n1 d1, .slice E2 n2 d2, .slice Ao no co, .map (some wt.heap.size)] 70)) wt.heap.size (fun _ => none) := (mapAt_made wt).same (Below.heap_alloc _ _ _ (by simp))
  have hrow0 : Row ((wt.alloc (.map #[] 0)).alloc (.cells #[.int .i64 0, .int .i64 0, .int .i64 0, .slice E1 n1 d1, .slice E2 n2 d2, .slice Ao no co, .map (some wt.heap.size)] 70)) (wt.heap.size + 1) 70 [.int .i64 0, .int .i64 0, .int .i64 0, .slice E1 n1 d1, .slice E2 n2 d2, .slice Ao no co, .map (some wt.heap.size)] := by
    have h := Row.new (wt.alloc (.map #[] 0)) 70 [.int .i64 0, .int .i64 0, .int .i64 0, .slice E1 n1 d1, .slice E2 n2 d2, .slice Ao no co, .map (some wt.heap.size)]
    rw [sz_alloc] at h
    exact h
  have hbw : Below w.heap.size w ((wt.alloc (.map #[] 0)).alloc (.cells #[.int .i64 0, .int .i64 0, .int .i64 0, .slice E1 n1 d1, .slice E2 n2 d2, .slice Ao no co, .map (some wt.heap.size)] 70)) := HBT.out.trans (hba.mono HBT.out.size)
  have ho1 : BR.Own ((wt.alloc (.map #[] 0)).alloc (.cells #[.int .i64 0, .int .i64 0, .int .i64 0, .slice E1 n1 d1, .slice E2 n2 d2, .slice Ao no co, .map (some wt.heap.size)] 70)) w.heap.size E1 n1 d1 M.rams := HT.out.own1.below hba
  have ho2 : BR.Own ((wt.alloc (.map #[] 0)).alloc (.cells #[.int .i64 0, .int .i64 0, .int .i64 0, .slice E1 n1 d1, .slice E2 n2 d2, .slice Ao no co, .map (some wt.heap.size)] 70)) w.heap.size E2 n2 d2 M.devs := HT.out.own2.below hba
  obtain ⟨g', hg'⟩ : ∃ g', g' = wt.heap.size + 1 := ⟨_, rfl⟩
  obtain ⟨mb, hmb⟩ : ∃ mb, mb = wt.heap.size := ⟨_, rfl⟩
  rw [← hg'] at hrow0
  rw [← hg']
  rw [← hmb] at hmap0 hrow0 hba hbw ho1 ho2
  rw [← hmb]
  have hgem : w.heap.size ≤ mb := by rw [hmb]; exact HBT.out.size
  have hgeg : w.heap.size ≤ g' := by have := HBT.out.size; omega
  clear hg' hmb
  generalize (wt.alloc (.map #[] 0)).alloc (.cells #[.int .i64 0, .int .i64 0, .int .i64 0, .slice E1 n1 d1, .slice E2 n2 d2, .slice Ao no co, .map (some mb)] 70) = w2 at *
  have HI0 : Hid (CloneI w M pm n1 n2 Ao no co g' mb E1 E2 d1 d2 (fun _ => none) (fun k => (pm k).isSome) w2) := Lib.hid ⟨hrow0, ho1, ho2, HT.out.cap1, HT.out.cap2, hmap0, (fun k p h => by cases h), (fun k k' p h => by cases h), (fun k => by cases (pm k).isSome <;> rfl), hbw, hgeg, hgem⟩
  have p6 := (HRW.out.below hbw HRW.out.lt).cell 6
  have lg2 := (HRW.out.below hbw HRW.out.lt).lt
  simp only [List.getElem?_cons_zero, List.getElem?_cons_succ] at p6
  have HBW := Lib.hid hbw
  have HOW : Hid (w2.ownsMap Try.prog 25 ptrR b n D) := Lib.hid (by
    obtain ⟨es, clock, h, r⟩ := HO.out
    exact ⟨es, clock, (hbw.block b lb).trans h, r⟩)
  have HMB : Hid (b ≠ mb) := Lib.hid (by omega)
  have HGE : Hid (w.heap.size ≤ w2.heap.size) := Lib.hid hbw.size
  clear hba hbw hrow0 hmap0 ho1 ho2 hgem hgeg q3 lg lb hbl KAL HTC HT HTB HBT
  go_wp2_with (first
    | (at_range; refine wpList_range_own _ rfl _ 68 rfl 25 104 keyed64 Try.underlying68 _ b n D rfl HOW.out ?_; intro w3 hrg0 hg0 hs0))
  go_frame
  have HR0 : Hid (Iter b w2.heap.size n D (fun k => (pm k).isSome) (Maps.size D) w3) := Lib.hid ⟨_, hrg0, fun k => (HPG.out.has k).symm⟩
  have HI1 : Hid (CloneI w M pm n1 n2 Ao no co g' mb E1 E2 d1 d2 (fun _ => none) (fun k => (pm k).isSome) w3) := Lib.hid (HI0.out.kept (r := w2.heap.size) (o := .mapIter none 0 #[] 0) ⟨hg0.os, hg0.tape, hg0.output, hg0.size, fun i hi _ => hg0.block i hi (by simp)⟩ HGE.out (.inl (Nat.le_refl _)) (by intro a b c h; cases h) (by intro a b h; cases h))
  obtain ⟨r, hr⟩ : ∃ r, r = w2.heap.size := ⟨_, rfl⟩
  rw [← hr] at HR0 ⊢
  have HRG : Hid (w.heap.size ≤ r) := Lib.hid (by rw [hr]; exact HGE.out)
  clear hrg0 hg0 hs0 hr p6 lg2 HI0
  go_loopw [4] (fun _ wr => ∃ (pn : Nat → Option Nat) (lf : Nat → Bool) (cnt : Nat), Hid (Iter b r n D lf cnt wr) ∧ Hid (CloneI w M pm n1 n2 Ao no co g' mb E1 E2 d1 d2 pn lf wr)) (fun _ wr => wr.rangeLeft b r)
  case atStart => exact ⟨_, _, _, HR0, HI1⟩
  case round =>
    obtain ⟨pn, lf, cnt, HIT, HIV⟩ := hrel
    obtain ⟨left, hrg, hlf⟩ := HIT.out
    have HRGS := Lib.hid hrg; have HLF := Lib.hid hlf
    clear hrg hlf
    go_wp2_with (first
      | (at_next; refine wpList_next_ranges _ rfl _ rfl 25 keyed64 ptrR (fun k : Nat => Value.int .u64 (k : Nat)) ptrV (fun key kl h => by obtain ⟨k, _, h1, _⟩ := kl_form h; exact ⟨k, h1⟩) (fun v y h => by obtain ⟨c, h1, _⟩ := ptrR_form h; exact ⟨c, h1⟩) b r n D left cnt rfl HRGS.out ?_ ?_))
    · intro _ hl0
      have HL0 : Hid (∀ k, lf k = false) := Lib.hid (fun k => by rw [HLF.out, hl0])
      clear hl0
      go_wp2_with fail
      go_ret
      exact HIV.out.said HM.out HN1.out HN2.out HL0.out
    · intro k c l yd yp w4 cnt4 hkey hlk hv hat hrg4 hlt4 hg4 hs4 hen
      obtain ⟨k', hk', hkk, rfl⟩ := kl_form hkey
      have hkk : k = k' := by injection hkk with _ hkk; exact Int.ofNat.inj hkk
      subst hkk
      have hsome := ranges_has HRGS.out hlk
      rw [HPG.out.has] at hsome
      have hck : c = pm k := by
        rw [ptrR_mk] at hv
        injection hv with hv
        injection hv with hv _
        have h1 := hat (.lit (.bool false))
        rw [HPG.out.at_, ← hv] at h1
        exact (ptrD_inj h1).symm
      cases hpk : pm k with
      | none => rw [hpk] at hsome; cases hsome
      | some p =>
      rw [hpk] at hck
      subst hck
      have hk52 : k < 4503599627370496 := HM.out.map.2 k hsome
      have hb4 : Below w.heap.size w w4 := HIV.out.bel.grown hg4 HIV.out.bel.size (fun j hj => by injection hj with hj; subst hj; exact HRG.out)
      obtain ⟨it, hit, hi1, hi2⟩ : ∃ o, wr.heap[r]? = some o ∧ (∀ cs t z, o ≠ .cells cs t z) ∧ (∀ es c, o ≠ .map es c) := by
        obtain ⟨_, _, since, seen, c0, _, _, _, _, hit, _⟩ := HRGS.out
        exact ⟨_, hit, (by intro a b c h; cases h), (by intro a b h; cases h)⟩
      have hiv4 := HIV.out.kept (r := r) (o := it) ⟨hg4.os, hg4.tape, hg4.output, hg4.size, fun i hi hn => hg4.block i hi (fun e => hn (by injection e))⟩ HRG.out (.inr hit) hi1 hi2
      obtain ⟨hlr, _, _⟩ := HM.out.leaf k p hpk
      have hl4 : Row w4 p 106 (leafRow M.mem k) := hlr.below hb4 hlr.lt
      have hpw : p < w.heap.size := hlr.lt
      obtain ⟨hz0, hsz⟩ := zero_of_info info_leaf
      obtain ⟨Zl, hZl⟩ : ∃ Zl, Zl = List.replicate 4096 (u8 0) := ⟨_, rfl⟩
      rw [← hZl] at hz0
      have hZll : Zl.length = 4096 := by rw [hZl, List.length_replicate]
      obtain ⟨V, hV⟩ : ∃ V, V = leafRow M.mem k := ⟨_, rfl⟩
      rw [← hV] at hl4
      have hVl : V.length = 4096 := by rw [hV, leafRow_len]
      have hV1 : ∀ v ∈ V, v.oneCell' = true := by rw [hV]; exact leafRow_one _ _
      have hr5 : Row (w4.alloc (.cells Zl.toArray 106)) w4.heap.size 106 Zl := Row.new w4 _ Zl
      have hst := run_storeCells_row2 (P := Try.prog) (ty := 106) hr5 (by rw [hVl]; exact hsz) (by rw [hZll, hVl]) hV1
      have hqg : w.heap.size ≤ w4.heap.size := hb4.size
      have hc6 : ChgP (fun _ => False) w4 ((w4.alloc (.cells Zl.toArray 106)).setRow w4.heap.size V.toArray) := ((ChgP.refl _ w4).alloc _).setRow (.inr (Nat.le_refl _)) _
      have hr6 : Row ((w4.alloc (.cells Zl.toArray 106)).setRow w4.heap.size V.toArray) w4.heap.size 106 V := setRow_row hr5 V
      have hrg6 : ((w4.alloc (.cells Zl.toArray 106)).setRow w4.heap.size V.toArray).ranges Try.prog 25 ptrR b r n D (fun z => left z && !z.sameKey (kl k)) cnt4 := hrg4.kept (row := none) ⟨hc6.os, hc6.tape, hc6.output, hc6.size, fun i hi _ => hc6.block i hi (fun h => h)⟩ (by simp) (by simp)
      have hiv6 := hiv4.kept (r := w4.heap.size) (o := it) (hc6.mono (fun x h => h.elim)) hqg (.inl (Nat.le_refl _)) hi1 hi2
      obtain ⟨w6, hw6⟩ : ∃ w6, w6 = (w4.alloc (.cells Zl.toArray 106)).setRow w4.heap.size V.toArray := ⟨_, rfl⟩
      rw [← hw6] at hst hc6 hr6 hrg6 hiv6
      obtain ⟨w7, hrun7, hm7, ht7⟩ := hiv6.map.store k w4.heap.size hk52
      have g6 := hiv6.row.cell 6
      have lg6 := hiv6.row.lt
      have lp4 := hl4.lt
      simp only [List.getElem?_cons_zero, List.getElem?_cons_succ] at g6
      have HL4 := Lib.hid hl4; have HVL := Lib.hid hVl; have HV := Lib.hid hV; have HQG := Lib.hid hqg
      have HR6 := Lib.hid hr6; have HRG6 := Lib.hid hrg6; have HIV6 := Lib.hid hiv6; have HM7 := Lib.hid hm7; have HT7 := Lib.hid ht7; have HPK := Lib.hid hpk; have HLK := Lib.hid hlk; have HW6 := Lib.hid hw6
      have HLT4 := Lib.hid hlt4
      have HFR : Hid (∀ k', pn k' ≠ some w4.heap.size) := Lib.hid (fun k' e => absurd (hiv4.leaf k' _ e).1.lt (Nat.lt_irrefl _))
      clear hw6 hkey hlk hv hat hrg4 hlt4 hg4 hs4 hsome hpk hk52 hb4 hit hi1 hi2 hiv4 hlr hl4 hpw hsz hZl hZll hV hV1 hr5 hc6 hr6 hrg6 hiv6 hm7 ht7 hqg hk'
      unfold ptrV at hen ⊢
      go_upto_region 6 with (first | (refine wpList_load_midw (by rfl) _ _ rfl _ _ (by rfl) V (.array 4096 5) (row_rangeAt HL4.out) under_leaf rfl (by rw [HVL.out]; exact (zero_of_info info_leaf).2) ?_))
      have HRG7 : Hid (w7.ranges Try.prog 25 ptrR b r n D (fun z => left z && !z.sameKey (kl k)) cnt4) := Lib.hid (HRG6.out.kept (row := some mb) HT7.out.grown (fun e => HMB.out (by injection e)) (fun e => by
        injection e with e
        subst e
        obtain ⟨_, _, _, _, _, _, _, _, _, hit, _⟩ := HRG6.out
        obtain ⟨⟨_, _, ⟨_, _, hb, _⟩, _⟩, _⟩ := HIV6.out.map
        rw [hit] at hb; cases hb))
      have HIV7 : Hid (CloneI w M pm n1 n2 Ao no co g' mb E1 E2 d1 d2 (upd pn k (some w4.heap.size)) (fun z => lf z && !decide (z = k)) w7) := Lib.hid (HIV6.out.put HR6.out (by rw [← HV.out]) HQG.out HM7.out HT7.out (by rw [HPK.out]; rfl) HFR.out)
      have HIT7 : Hid (Iter b r n D (fun z => lf z && !decide (z = k)) cnt4 w7) := Lib.hid ⟨_, HRG7.out, fun z => by simp only [HLF.out, kl_same]⟩
      go_wp2_with fail
      go_roundw
      case rel => exact ⟨_, _, cnt4, HIT7, HIV7⟩
      case measure => rw [HRG7.out.left_eq, HRGS.out.left_eq]; exact HLT4.out
end Bu
end Go.Proofs.Ytmhkmemaneopeaa
