/- The machine's calls in the words of its bus and its bytes. -/
import Derived.Test.YtmhkmemaneopeaaBuD
set_option linter.unusedVariables false
set_option linter.unusedSimpArgs false
namespace Go.Proofs.Ytmhkmemaneopeaa
open Go.RowKit
open S64
namespace Bu
/-- the first of n bytes that is off the bus -/
def OffIs (l : Sp.S) (a n : Nat) : Option Nat → Prop
  | none => ∀ p, a ≤ p → p < a + n → on l p = true
  | some q => a ≤ q ∧ q < a + n ∧ on l q = false ∧ q ≤ TOP ∧ ∀ p, a ≤ p → p < q → on l p = true
theorem OffIs.uniq {l : Sp.S} {a n : Nat} {F G : Option Nat} (h : OffIs l a n F) (k : OffIs l a n G) : F = G := by
  cases F with
  | none =>
    cases G with
    | none => rfl
    | some q => have := h q k.1 k.2.1; rw [k.2.2.1] at this; cases this
  | some p =>
    cases G with
    | none => have := k p h.1 h.2.1; rw [h.2.2.1] at this; cases this
    | some q =>
      rcases Nat.lt_trichotomy p q with hl | hl | hl
      · have := k.2.2.2.2 p h.1 hl; rw [h.2.2.1] at this; cases this
      · rw [hl]
      · have := h.2.2.2.2 q k.1 hl; rw [k.2.2.1] at this; cases this
theorem MachAt.off {Z R : Nat → Prop} {w : World} {g : Nat} {M : PM} {A1 A2 Ao : Option Addr} {c1 c2 no co b : Nat} {pm : Nat → Option Nat} {sp : Sp.S} (h : MachAt Z R w g M A1 A2 Ao c1 c2 no co b pm sp) {a n : Nat} (ha : a ≤ TOP) : OffIs (M.rams ++ M.devs) a n (offAt sp a n) := by
  have hon : ∀ p, p ≤ TOP → on (M.rams ++ M.devs) p = !Sp.has sp p := fun p hp => by rw [h.has p hp]; simp
  cases hF : offAt sp a n with
  | none =>
    intro p h1 h2
    have h64 := offAt_none h ha hF
    have hp : p ≤ TOP := by unfold TOP; omega
    rw [hon p hp]
    unfold offAt at hF
    cases hx : Sp.next sp a with
    | mk m o =>
      rw [hx] at hF
      cases o with
      | false =>
        rw [(Sp.next_none h.nrm.1 (show (Sp.next sp a).2 = false by rw [hx])).2 p h1]; rfl
      | true =>
        obtain ⟨g1, g2, g3⟩ := Sp.next_some h.nrm.1 hx
        have hm : ¬ m < a + n := fun hc => by rw [if_pos ⟨rfl, by omega, hc⟩] at hF; cases hF
        rw [g3 p h1 (by omega)]; rfl
  | some q =>
    unfold offAt at hF
    cases hx : Sp.next sp a with
    | mk m o =>
      rw [hx] at hF
      by_cases hc : o = true ∧ 0 < n ∧ m < a + n
      · rw [if_pos hc] at hF
        injection hF with hF
        simp only at hF
        subst hF
        obtain ⟨rfl, _, _⟩ := hc
        obtain ⟨g1, g2, g3⟩ := Sp.next_some h.nrm.1 hx
        have hmt := has_top h.nrm.1 g2
        exact ⟨g1, by omega, by rw [hon m hmt, g2]; rfl, hmt, fun p h1 h2 => by rw [hon p (by omega), g3 p h1 h2]; rfl⟩
      · rw [if_neg hc] at hF; cases hF
/-- A MACHINE: what may turn with it, and its lists, are there. -/
structure MZ (Z R : Nat → Prop) (w : World) (g : Nat) (M : PM) : Prop where
  m : Mach Z R w g M
  z : ∀ k, Z k → k < w.heap.size
  r : ∀ k, R k → k < w.heap.size
theorem Mach.count_le {Z R : Nat → Prop} {w : World} {g : Nat} {M : PM} (h : Mach Z R w g M) : True := trivial
theorem MachAt.mz {Z R : Nat → Prop} {w : World} {g : Nat} {M : PM} {A1 A2 Ao : Option Addr} {c1 c2 no co b : Nat} {pm : Nat → Option Nat} {sp : Sp.S} (h : MachAt Z R w g M A1 A2 Ao c1 c2 no co b pm sp) (hz : ∀ k, Z k → k < w.heap.size) (hr : ∀ k, R k → k < w.heap.size) : MZ Z R w g M := ⟨⟨_, _, _, _, _, _, _, _, _, _, h⟩, hz, hr⟩
/-- what turns elsewhere leaves it -/
theorem MZ.chg {Z R Y : Nat → Prop} {w w' : World} {g : Nat} {M : PM} (h : MZ Z R w g M) (hc : ChgP Y w w') (hY : ∀ k, Z k ∨ R k → ¬ Y k) : MZ Z R w' g M := ⟨h.m.chg hc hY, fun k hk => Nat.lt_of_lt_of_le (h.z k hk) hc.size, fun k hk => Nat.lt_of_lt_of_le (h.r k hk) hc.size⟩
theorem MZ.below {Z R : Nat → Prop} {w w' : World} {g : Nat} {M : PM} (h : MZ Z R w g M) (hb : Below w.heap.size w w') : MZ Z R w' g M := h.chg (Y := fun _ => False) (ChgP.of_below hb) (fun _ _ h => h)
theorem MZ.drew {Z R : Nat → Prop} {w : World} {g : Nat} {M : PM} (h : MZ Z R w g M) : MZ Z R w.drew g M := h.below (Below.refl _ _).drew
theorem MZ.lt {Z R : Nat → Prop} {w : World} {g : Nat} {M : PM} (h : MZ Z R w g M) : g < w.heap.size := by
  obtain ⟨_, _, _, _, _, _, _, _, _, _, h⟩ := h.m
  exact h.row.lt
/-- what a call that lays nothing leaves -/
def Quiet1 (Z R : Nat → Prop) (w : World) (g : Nat) (M' : PM) (w' : World) : Prop := MZ Z R w' g M' ∧ ChgP Z w w'
/-- what a call that lays bytes leaves: new pages are its own -/
def Laid1 (Z R : Nat → Prop) (w : World) (g : Nat) (M' : PM) (w' : World) : Prop := ∃ Z', MZ Z' R w' g M' ∧ ChgP Z w w' ∧ ∀ k, Z' k → Z k ∨ w.heap.size ≤ k
theorem load_m {Z R : Nat → Prop} {M : PM} {at_ n g : Nat} {w : World} (h : MZ Z R w g M) (hk : n = 1 ∨ n = 2 ∨ n = 4 ∨ n = 8) (ha : at_ ≤ TOP) (hs : M.strays < 9223372036854775807) (hl : M.loads < 9223372036854775807) {F : Option Nat} (hF : OffIs (M.rams ++ M.devs) at_ n F) :
    Calls Try.prog 15 #[.pointer (some ⟨g, 0, none⟩), .int .u64 (at_ : Nat), .int .i64 (n : Nat)] w fun e w' => e = .returned (.tuple #[.int .u64 (peekV M at_ n F : Nat), faultV F]) ∧ Quiet1 Z R w g (loadM M F) w' := by
  obtain ⟨_, _, _, _, _, _, _, _, _, _, hm⟩ := h.m
  have e := (hm.off (n := n) ha).uniq hF
  subst e
  exact (load_any Z R M _ _ _ _ _ _ _ _ _ _ at_ n g w hm hk ha hs hl).mono fun e w' hh => ⟨hh.1, hh.2.1.mz (fun k hk => Nat.lt_of_lt_of_le (h.z k hk) hh.2.2.size) (fun k hk => Nat.lt_of_lt_of_le (h.r k hk) hh.2.2.size), hh.2.2⟩
theorem load_bad_m {Z R : Nat → Prop} {M : PM} {at_ g : Nat} {z : Int} {w : World} (h : MZ Z R w g M) (hz : wideB z = false) (hl : M.loads < 9223372036854775807) :
    Calls Try.prog 15 #[.pointer (some ⟨g, 0, none⟩), .int .u64 (at_ : Nat), .int .i64 z] w fun e w' => e = .returned (.tuple #[.int .u64 (0 : Nat), .agg #[.int .i64 31, .int .u64 (at_ : Nat)]]) ∧ Quiet1 Z R w g M w' := by
  obtain ⟨_, _, _, _, _, _, _, _, _, _, hm⟩ := h.m
  exact (load_bad Z R M _ _ _ _ _ _ _ _ _ _ at_ g z w hm hz hl).mono fun e w' hh => ⟨hh.1, hh.2.1.mz (fun k hk => Nat.lt_of_lt_of_le (h.z k hk) hh.2.2.size) (fun k hk => Nat.lt_of_lt_of_le (h.r k hk) hh.2.2.size), hh.2.2⟩
theorem peek_m {Z R : Nat → Prop} {M : PM} {at_ n g : Nat} {w : World} (h : MZ Z R w g M) (hk : n = 1 ∨ n = 2 ∨ n = 4 ∨ n = 8) (ha : at_ ≤ TOP) (hs : M.strays < 9223372036854775807) {F : Option Nat} (hF : OffIs (M.rams ++ M.devs) at_ n F) :
    Calls Try.prog 38 #[.pointer (some ⟨g, 0, none⟩), .int .u64 (at_ : Nat), .int .i64 (n : Nat)] w fun e w' => e = .returned (.tuple #[.int .u64 (peekV M at_ n F : Nat), faultV F]) ∧ Quiet1 Z R w g (stray M F) w' := by
  obtain ⟨_, _, _, _, _, _, _, _, _, _, hm⟩ := h.m
  have e := (hm.off (n := n) ha).uniq hF
  subst e
  exact (peek_any Z R M _ _ _ _ _ _ _ _ _ _ at_ n g w hm hk ha hs).mono fun e w' hh => ⟨hh.1, hh.2.1.mz (fun k hk => Nat.lt_of_lt_of_le (h.z k hk) hh.2.2.size) (fun k hk => Nat.lt_of_lt_of_le (h.r k hk) hh.2.2.size), hh.2.2⟩
/-- n bytes -/
def memB (mem : Nat → Nat) (a n : Nat) : List Nat := (List.range n).map fun i => mem (a + i)
theorem memB_len (mem : Nat → Nat) (a n : Nat) : (memB mem a n).length = n := by simp [memB]
theorem memB_get (mem : Nat → Nat) (a n i : Nat) (hi : i < n) : (memB mem a n)[i]? = some (mem (a + i)) := by
  rw [memB, List.getElem?_map, List.getElem?_range hi]; rfl
theorem memB_getD (mem : Nat → Nat) (a n i : Nat) (hi : i < n) : (memB mem a n).getD i 0 = mem (a + i) := by
  rw [List.getD_eq_getElem?_getD, memB_get _ _ _ _ hi]; rfl
theorem outB_memB (mem : Nat → Nat) (a n : Nat) : outB mem a n n = (memB mem a n).map u8 := by
  rw [outB, memB, List.map_map]
  refine List.map_congr_left fun i hi => ?_
  rw [if_pos (List.mem_range.1 hi)]; rfl
/-- what Read leaves -/
def Read1 (Z R : Nat → Prop) (w : World) (g : Nat) (M : PM) (at_ n : Nat) (F : Option Nat) (e : Ending) (w' : World) : Prop :=
  Quiet1 Z R w g (stray M F) w' ∧ match F with
  | some p => e = .returned (.tuple #[.slice none 0 0, faultV (some p)])
  | none => ∃ bb, e = .returned (.tuple #[.slice (some ⟨bb, 0, none⟩) n n, faultV none]) ∧ w.heap.size ≤ bb ∧ Row w' bb 5 ((memB M.mem at_ n).map u8) ∧ ∀ b ∈ memB M.mem at_ n, b < 256
theorem read_m {Z R : Nat → Prop} {M : PM} {at_ n g : Nat} {w : World} (h : MZ Z R w g M) (hn : n ≤ 9223372036854775807) (ha : at_ ≤ TOP) (hs : M.strays < 9223372036854775807) {F : Option Nat} (hF : OffIs (M.rams ++ M.devs) at_ n F) :
    Calls Try.prog 41 #[.pointer (some ⟨g, 0, none⟩), .int .u64 (at_ : Nat), .int .i64 (n : Nat)] w (Read1 Z R w g M at_ n F) := by
  obtain ⟨_, _, _, _, _, _, _, _, _, _, hm⟩ := h.m
  have e := (hm.off (n := n) ha).uniq hF
  subst e
  refine (read_any Z R M _ _ _ _ _ _ _ _ _ _ at_ n g w hm hn ha hs).mono fun e w' hh => ⟨⟨hh.1.mz (fun k hk => Nat.lt_of_lt_of_le (h.z k hk) hh.2.1.size) (fun k hk => Nat.lt_of_lt_of_le (h.r k hk) hh.2.1.size), hh.2.1⟩, ?_⟩
  rcases hh.2.2 with ⟨p, h1, h2⟩ | ⟨h1, bb, h2, h3, h4⟩
  · rw [h1]; exact h2
  · rw [h1]
    rw [outB_memB] at h4
    refine ⟨bb, h2, h3, h4, fun b hb => ?_⟩
    obtain ⟨i, _, rfl⟩ := List.mem_map.1 hb
    exact hm.byte _
theorem LaySaid.laid {Z R : Nat → Prop} {w : World} {g : Nat} {M M' : PM} {A1 A2 Ao : Option Addr} {x1 x2 no co b : Nat} {sp : Sp.S} {F : Option Nat} {e : Ending} {w' : World} (h : LaySaid Z R w g M' A1 A2 Ao x1 x2 no co b sp F e w') (hr : ∀ k, R k → k < w.heap.size) : e = .returned (faultV F) ∧ Laid1 Z R w g M' w' := by
  obtain ⟨h1, ⟨pm', hm⟩, hc⟩ := h
  refine ⟨h1, fun k => grow Z w k ∧ k < w'.heap.size, (hm.tight.mono (fun k hk => hk) (R' := R) (fun k hk => hk.1.1) (fun k hk hrk => ?_)).mz (fun k hk => hk.2) (fun k hk => Nat.lt_of_lt_of_le (hr k hk) hc.size), hc, fun k hk => hk.1⟩
  exact hm.dis k hk.1 ⟨hrk, hr k hrk⟩
theorem store_m {Z R : Nat → Prop} {M : PM} {at_ n g v : Nat} {w : World} (h : MZ Z R w g M) (hk : n = 1 ∨ n = 2 ∨ n = 4 ∨ n = 8) (hv : v ≤ TOP) (hst : M.stores < 9223372036854775807) (ha : at_ ≤ TOP) (hs : M.strays < 9223372036854775807) {F : Option Nat} (hF : OffIs (M.rams ++ M.devs) at_ n F) :
    Calls Try.prog 27 #[.pointer (some ⟨g, 0, none⟩), .int .u64 (at_ : Nat), .int .i64 (n : Nat), .int .u64 (v : Nat)] w fun e w' => e = .returned (faultV F) ∧ Laid1 Z R w g (laidM M at_ n (byteOf v) 1 F) w' := by
  obtain ⟨_, _, _, _, _, _, _, _, _, _, hm⟩ := h.m
  have e := (hm.off (n := n) ha).uniq hF
  subst e
  exact (store_any Z R M _ _ _ _ _ _ _ _ _ _ at_ n g v w hm hk hv hst ha hs).mono fun e w' hh => hh.laid (M := M) h.r
theorem write_m {Z R : Nat → Prop} {M : PM} {at_ n g : Nat} {A : Option Addr} {cc : Nat} {bs : List Nat} {w : World} (h : MZ Z R w g M) (hb : IsB w w.heap.size A n bs) (hnz : ∀ ad, A = some ad → 0 < n → ¬ Z ad.block) (ha : at_ ≤ TOP) (hs : M.strays < 9223372036854775807) {F : Option Nat} (hF : OffIs (M.rams ++ M.devs) at_ n F) :
    Calls Try.prog 25 #[.pointer (some ⟨g, 0, none⟩), .int .u64 (at_ : Nat), .slice A n cc] w fun e w' => e = .returned (faultV F) ∧ Laid1 Z R w g (laidM M at_ n (fun i => bs.getD i 0) 0 F) w' := by
  obtain ⟨_, _, _, _, _, _, _, _, _, _, hm⟩ := h.m
  have e := (hm.off (n := n) ha).uniq hF
  subst e
  exact (write_any Z R M _ _ _ _ _ _ _ _ _ _ at_ n g A cc bs w hm hb hnz ha hs).mono fun e w' hh => hh.laid (M := M) h.r
theorem fill_m {Z R : Nat → Prop} {M : PM} {at_ n g v : Nat} {w : World} (h : MZ Z R w g M) (hn : n ≤ 9223372036854775807) (hv : v < 256) (ha : at_ ≤ TOP) (hs : M.strays < 9223372036854775807) {F : Option Nat} (hF : OffIs (M.rams ++ M.devs) at_ n F) :
    Calls Try.prog 22 #[.pointer (some ⟨g, 0, none⟩), .int .u64 (at_ : Nat), .int .i64 (n : Nat), .int .u8 (v : Nat)] w fun e w' => e = .returned (faultV F) ∧ Laid1 Z R w g (laidM M at_ n (fun _ => v) 0 F) w' := by
  obtain ⟨_, _, _, _, _, _, _, _, _, _, hm⟩ := h.m
  have e := (hm.off (n := n) ha).uniq hF
  subst e
  exact (fill_any Z R M _ _ _ _ _ _ _ _ _ _ at_ n g v w hm hn hv ha hs).mono fun e w' hh => hh.laid (M := M) h.r
theorem where_m {Z R : Nat → Prop} {M : PM} {at_ g : Nat} {w : World} (h : MZ Z R w g M) (ha : at_ ≤ TOP) : Calls Try.prog 13 #[.pointer (some ⟨g, 0, none⟩), .int .u64 (at_ : Nat)] w (WhereSaid w (spotF M at_ 3)) := by
  obtain ⟨_, _, _, _, _, _, _, _, _, _, hm⟩ := h.m
  exact where_any Z R M _ _ _ _ _ _ _ _ _ _ at_ g w hm ha
theorem kept_m {Z R : Nat → Prop} {M : PM} {g : Nat} {ks : List Nat} {w : World} (h : MZ Z R w g M) (hn : ks.Nodup) (hk : ∀ k, k ∈ ks ↔ nz M.mem k) : Calls Try.prog 11 #[.pointer (some ⟨g, 0, none⟩)] w fun e w' => e = .returned (.int .i64 (ks.length : Nat)) ∧ w = w' := by
  obtain ⟨_, _, _, _, _, _, _, _, _, _, hm⟩ := h.m
  exact kept_any Z R M _ _ _ _ _ _ _ _ _ _ g ks w hm hn hk
theorem loads_m {Z R : Nat → Prop} {M : PM} {g : Nat} {w : World} (h : MZ Z R w g M) : Calls Try.prog 30 #[.pointer (some ⟨g, 0, none⟩)] w fun e w' => e = .returned (.int .i64 (M.loads : Nat)) ∧ w = w' := by
  obtain ⟨_, _, _, _, _, _, _, _, _, _, hm⟩ := h.m
  exact loads_any Z R M _ _ _ _ _ _ _ _ _ _ g w hm
theorem stores_m {Z R : Nat → Prop} {M : PM} {g : Nat} {w : World} (h : MZ Z R w g M) : Calls Try.prog 31 #[.pointer (some ⟨g, 0, none⟩)] w fun e w' => e = .returned (.int .i64 (M.stores : Nat)) ∧ w = w' := by
  obtain ⟨_, _, _, _, _, _, _, _, _, _, hm⟩ := h.m
  exact stores_any Z R M _ _ _ _ _ _ _ _ _ _ g w hm
theorem strays_m {Z R : Nat → Prop} {M : PM} {g : Nat} {w : World} (h : MZ Z R w g M) : Calls Try.prog 28 #[.pointer (some ⟨g, 0, none⟩)] w fun e w' => e = .returned (.int .i64 (M.strays : Nat)) ∧ w = w' := by
  obtain ⟨_, _, _, _, _, _, _, _, _, _, hm⟩ := h.m
  exact strays_any Z R M _ _ _ _ _ _ _ _ _ _ g w hm
theorem bus_m {Z R : Nat → Prop} {M : PM} {g : Nat} {w : World} (h : MZ Z R w g M) (b1 : M.rams.length ≤ 1000000) (b2 : M.devs.length ≤ 1000000) : Calls Try.prog 10 #[.pointer (some ⟨g, 0, none⟩)] w (Twinned w M.rams.length M.devs.length M.rams M.devs) := by
  obtain ⟨_, _, _, _, _, _, _, _, _, _, hm⟩ := h.m
  exact bus_any Z R M _ _ _ _ _ _ _ _ _ _ g w hm b1 b2
theorem clone_m {Z R : Nat → Prop} {M : PM} {g : Nat} {w : World} (h : MZ Z R w g M) (b1 : M.rams.length ≤ 1000000) (b2 : M.devs.length ≤ 1000000) : Calls Try.prog 32 #[.pointer (some ⟨g, 0, none⟩)] w (ClonedM R w M) := by
  obtain ⟨_, _, _, _, _, _, _, _, _, _, hm⟩ := h.m
  exact clone_machine Z R M _ _ _ _ _ _ _ _ _ _ g w hm b1 b2
theorem ClonedM.mz {R : Nat → Prop} {w : World} {M : PM} {e : Ending} {w' : World} (h : ClonedM R w M e w') : Below w.heap.size w w' ∧ ∃ g Z' R', e = .returned (.pointer (some ⟨g, 0, none⟩)) ∧ MZ Z' R' w' g { M with loads := 0, stores := 0, strays := 0 } ∧ (∀ k, Z' k → w.heap.size ≤ k) ∧ ∀ k, R' k → (R k ∧ k < w.heap.size) ∨ w.heap.size ≤ k := by
  obtain ⟨hb, g, Z', R', he, hm, hz, hr⟩ := h
  exact ⟨hb, g, Z', R', he, ⟨hm, fun k hk => (hz k hk).2, fun k hk => by have := hb.size; rcases hr k hk with h | h <;> omega⟩, fun k hk => (hz k hk).1, fun k hk => by rcases hr k hk with h | h; exact .inl h; exact .inr h.1⟩
/-- what New has made -/
theorem NewSaid.mz {w : World} {rams devs : Sp.S} {e : Ending} {w' : World} (h : NewSaid w rams devs e w') (h0 : newE rams devs = 0) : Below w.heap.size w w' ∧ ∃ g Z R, e = .returned (.tuple #[.pointer (some ⟨g, 0, none⟩), .int .i64 0]) ∧ MZ Z R w' g ⟨rams, devs, fun _ => 0, 0, 0, 0⟩ ∧ ∀ k, Z k ∨ R k → w.heap.size ≤ k := by
  obtain ⟨hb, h | ⟨_, g, Z, R, he, hm, hzr⟩⟩ := h
  · exact absurd h0 h.1
  · exact ⟨hb, g, Z, R, he, ⟨hm, fun k hk => (hzr k (.inl hk)).2, fun k hk => (hzr k (.inr hk)).2⟩, fun k hk => (hzr k hk).1⟩
end Bu
end Go.Proofs.Ytmhkmemaneopeaa
