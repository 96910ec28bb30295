/- The book's marks, and what Apart keeps true. -/
import Derived.Test.YtomjmapidjnpbaaGreatBk
set_option linter.unusedVariables false
set_option linter.unusedSimpArgs false
namespace Go.Proofs.YtomjmapidjnpbaaGreat
open Go.RowKit

/-- the mark of a place -/
def markOf (i j : Nat) : Nat := (i + 1) / 2 ^ (8 * (j % 3)) % 256
theorem markOf_lt (i j : Nat) : markOf i j < 256 := Nat.mod_lt _ (by decide)
set_option maxRecDepth 100000 in
set_option maxHeartbeats 400000 in
theorem marks_any (i j : Nat) (w : World) (hi : i ≤ 4000) (hj : j ≤ 9223372036854775807) :
    Calls Tryz.prog 20 #[.int .i64 i, .int .i64 j] w fun e w' => e = .returned (.int .u8 (markOf i j : Nat)) ∧ w = w' := by
  obtain ⟨r, hr⟩ : ∃ r, r = j % 3 := ⟨_, rfl⟩
  have hr3 : r < 3 := by rw [hr]; exact Nat.mod_lt _ (by decide)
  have e1 : (j : Int).tmod 3 = (r : Int) := by rw [hr, Int.tmod_eq_emod_of_nonneg (by omega)]; omega
  have e2 : IntKind.i64.wrap ((i : Int) + 1) = (i : Int) + 1 := by rw [IntKind.wrap_i64]; omega
  have e3 : IntKind.i64.wrap (8 * (r : Int)) = 8 * (r : Int) := by rw [IntKind.wrap_i64]; omega
  have HM : Hid (markOf i j = (i + 1) / 2 ^ (8 * r) % 256) := Lib.hid (by unfold markOf; rw [hr])
  clear hr
  go_enter Tryz.func20, Tryz.ntmps20
  go_wp2_with fail
  go_ret
  refine ⟨?_, rfl⟩
  rw [HM.out]
  norm_cast
/-- it lies in a block of its own, with its spare room -/
structure Room (w : World) (x : Itm) : Prop where
  none_ : x.v.ownBlock = none → x.A = none ∧ x.c = 0
  some_ : ∀ g, x.v.ownBlock = some g → x.A = some ⟨g, 0, none⟩
  row : ∀ g, x.v.ownBlock = some g → ∃ l, Row w g 5 l ∧ l.length = x.c
  le : x.c ≤ 9223372036854775807 ∧ x.n ≤ x.c
def Marked (w : World) (x : Itm) (n : Nat) (f : Nat → Nat) : Prop := ∀ g, x.v.ownBlock = some g → ∃ l, Row w g 5 l ∧ l.length = x.c ∧ ∀ j, j < n → l[j]? = some (u8 (f j))
theorem Own.room {w : World} {base : Nat} {x : Itm} (h : Own w base x.A x.n x.c x.bs) : Room w x := by
  obtain ⟨A, n, c, bs, B, d⟩ := x
  rcases h.1.2 with ⟨hv, h0⟩ | ⟨g, cap, cur, hv, _, hh, hnc, hcm, hsz, _⟩
  · have h0 : n = 0 := h0
    injection hv with h1 _ h2
    have h1 : A = none := h1
    have h2 : c = 0 := h2
    subst h0 h1 h2
    exact ⟨fun _ => ⟨rfl, rfl⟩, fun g h => by simp [Itm.v, Value.ownBlock] at h, fun g h => by simp [Itm.v, Value.ownBlock] at h, by simp⟩
  · injection hv with h1 _ h2
    have h1 : A = some ⟨g, 0, none⟩ := h1
    have h2 : c = cap := h2
    subst h1 h2
    have e : ∀ g', (Itm.v ⟨some ⟨g, 0, none⟩, n, c, bs, B, d⟩).ownBlock = some g' → g' = g := by
      intro g' h
      simp [Itm.v, Value.ownBlock] at h
      exact h.symm
    refine ⟨fun h => by simp [Itm.v, Value.ownBlock] at h, fun g' h => by rw [e g' h], fun g' h => ?_, ?_⟩
    · rw [e g' h]
      exact ⟨cur.toList, by unfold Row; rw [hh], by simpa using hsz⟩
    · unfold maxLen at hcm
      exact ⟨hcm, hnc⟩
theorem Room.set_ {w : World} {x : Itm} (h : Room w x) (g j : Nat) (u : Value) : Room (w.setCell ⟨g, j, none⟩ u) x := by
  refine ⟨h.none_, h.some_, fun k hk => ?_, h.le⟩
  obtain ⟨l, h1, h2⟩ := h.row k hk
  by_cases e : k = g
  · subst e
    exact ⟨_, h1.set_ j u, by simpa using h2⟩
  · exact ⟨l, h1.far (p := ⟨g, j, none⟩) e u, h2⟩
theorem Marked.far {w : World} {x : Itm} {n : Nat} {f : Nat → Nat} (h : Marked w x n f) {g : Nat} (hg : x.v.ownBlock ≠ some g) (j : Nat) (u : Value) : Marked (w.setCell ⟨g, j, none⟩ u) x n f := by
  intro k hk
  obtain ⟨l, h1, h2⟩ := h k hk
  exact ⟨l, h1.far (p := ⟨g, j, none⟩) (fun e => hg (by rw [hk]; exact congrArg some e)) u, h2⟩
theorem Marked.next {w : World} {x : Itm} {n : Nat} {f : Nat → Nat} (h : Marked w x n f) {g : Nat} (hg : x.v.ownBlock = some g) (hn : n < x.c) : Marked (w.setCell ⟨g, n, none⟩ (u8 (f n))) x (n + 1) f := by
  intro k hk
  obtain rfl : g = k := by rw [hg] at hk; injection hk
  obtain ⟨l, h1, h2, h3⟩ := h g hk
  refine ⟨_, h1.set_ n _, by simpa using h2, fun j hj => ?_⟩
  by_cases e : j = n
  · subst e
    rw [List.getElem?_set_self (by omega)]
  · rw [List.getElem?_set_ne (by omega)]
    exact h3 j (by omega)
/-- what Apart keeps true: the lists up to i are marked -/
structure ApI (w0 wx : World) (gb off : Nat) (t : TypeId) (cs : List Value) (L : Value) (xs : List Itm) (SL S : List Nat) (i : Nat) : Prop where
  row : Row wx gb t cs
  lists : Tl wx 23 L xs.length (xs.map Itm.v) SL
  room : ∀ x ∈ xs, Room wx x
  marks : ∀ k x, xs[k]? = some x → k < i → Marked wx x x.c (markOf k)
  chg : Chg S w0 wx
section
variable {w0 wx : World} {gb off : Nat} {t : TypeId} {cs : List Value} {L : Value} {xs : List Itm} {SL S : List Nat} {i : Nat}
theorem ApI.drewN (h : ApI w0 wx gb off t cs L xs SL S i) (m : Nat) : ApI w0 (wx.drewN m) gb off t cs L xs SL S i :=
  ⟨h.row, h.lists.chg ((Chg.refl [] wx).drewN m) (by simp), fun x hx => ⟨(h.room x hx).none_, (h.room x hx).some_, (h.room x hx).row, (h.room x hx).le⟩, h.marks, h.chg.drewN m⟩
theorem ApI.store (h : ApI w0 wx gb off t cs L xs SL S i) (ht : t ≠ 5) (hap : xs.Pairwise fun x y => ∀ k, x.v.ownBlock = some k → y.v.ownBlock ≠ some k) {x : Itm} (hx : xs[i]? = some x) {g : Nat} (hg : x.v.ownBlock = some g) (hs : g ∈ S) (j : Nat) (u : Value) :
    ApI w0 (wx.setCell ⟨g, j, none⟩ u) gb off t cs L xs SL S i := by
  obtain ⟨l, hl, _⟩ := (h.room x (List.mem_of_getElem? hx)).row g hg
  have hgb : gb ≠ g := fun e => Blk.ne_ (cs := cs.toArray) (cs' := l.toArray) h.row hl ht e
  have hsl : ∀ k ∈ SL, k ≠ g := by
    intro k hk e
    obtain ⟨cur, hb⟩ := h.lists.blk k hk
    exact Blk.ne_ (cs := cur) (cs' := l.toArray) hb hl (by decide) e
  refine ⟨h.row.far (p := ⟨g, j, none⟩) hgb u, h.lists.keep fun k hk => Below.heap_setCell wx _ u k (hsl k hk), fun y hy => (h.room y hy).set_ g j u, fun k y hy hk => (h.marks k y hy hk).far ?_ j u, h.chg.set_ (p := ⟨g, j, none⟩) (.inl hs) u⟩
  have hk1 := (List.getElem?_eq_some_iff.1 hy)
  have hi1 := (List.getElem?_eq_some_iff.1 hx)
  have := List.pairwise_iff_getElem.1 hap k i hk1.1 hi1.1 hk
  rw [hk1.2, hi1.2] at this
  exact fun e => this g e hg
theorem ApI.next (h : ApI w0 wx gb off t cs L xs SL S i) {x : Itm} (hx : xs[i]? = some x) (hm : Marked wx x x.c (markOf i)) : ApI w0 wx gb off t cs L xs SL S (i + 1) := by
  refine ⟨h.row, h.lists, h.room, fun k y hy hk => ?_, h.chg⟩
  by_cases e : k = i
  · subst e
    rw [hx] at hy
    injection hy with hy
    subst hy
    exact hm
  · exact h.marks k y hy (by omega)
end
end Go.Proofs.YtomjmapidjnpbaaGreat
