/- The map of pages: a word of our own over the kit's 'ownsMap': page number to the block of its leaf. -/
import Derived.Test.YtmhkmemaneopeaaBuA
import Derived.Maps.OwnSet
import Derived.Maps.Range
import Derived.Maps.Ext
set_option linter.unusedVariables false
set_option linter.unusedSimpArgs false
namespace Go.Proofs.Ytmhkmemaneopeaa
open Go.RowKit
open S64
namespace Bu
abbrev DU := DataW Unit
/-- how an element reads: nil, or a block -/
def ptrR : Value → Option (DU × List MemPlace)
  | .pointer none => some (.lit (.bool false), [])
  | .pointer (some ⟨p, 0, none⟩) => some (.lit (.int .i64 (p : Nat)), [])
  | _ => none
def ptrV : Option Nat → Value
  | none => .pointer none
  | some p => .pointer (some ⟨p, 0, none⟩)
def ptrD : Option Nat → DU
  | none => .lit (.bool false)
  | some p => .lit (.int .i64 (p : Nat))
theorem ptrR_mk (o : Option Nat) : ptrR (ptrV o) = some (ptrD o, []) := by cases o <;> rfl
theorem ptrR_inv {v : Value} {o : Option Nat} {ps : List MemPlace} (h : ptrR v = some (ptrD o, ps)) : v = ptrV o := by
  unfold ptrR at h
  split at h
  · injection h with h; injection h with h _
    cases o with
    | none => rfl
    | some p => cases h
  · injection h with h; injection h with h _
    cases o with
    | none => cases h
    | some p =>
      simp only [ptrD] at h
      injection h with h; injection h with _ h
      have : _ := Int.ofNat.inj h
      subst this
      rfl
  · cases h
def kl (k : Nat) : Lit := .int .u64 (k : Nat)
theorem kl_key (k : Nat) : WideAt.IsKeyLit (kl k) := trivial
theorem kl_ne {a b : Nat} (h : a ≠ b) : kl a ≠ kl b := by
  intro e
  unfold kl at e
  injection e with _ e
  exact h (Int.ofNat.inj e)
def upd (pm : Nat → Option Nat) (k : Nat) (o : Option Nat) : Nat → Option Nat := fun x => if x = k then o else pm x
theorem upd_same (pm : Nat → Option Nat) (k : Nat) (o : Option Nat) : upd pm k o k = o := if_pos rfl
theorem upd_other (pm : Nat → Option Nat) {k x : Nat} (o : Option Nat) (h : x ≠ k) : upd pm k o x = pm x := if_neg h
structure Pgs (D : DU) (pm : Nat → Option Nat) : Prop where
  at_ : ∀ k, D.atKey (kl k) (.lit (.bool false)) = ptrD (pm k)
  has : ∀ k, Maps.has D (kl k) = (pm k).isSome
  key : ∀ l, Maps.has D l = true → ∃ k, l = kl k
  tidy : Maps.Tidy D
theorem Pgs.nil : Pgs (.map []) (fun _ => none) := ⟨fun _ => rfl, fun _ => rfl, fun _ h => (by cases h), Maps.tidy_empty⟩
theorem Pgs.put {D : DU} {pm : Nat → Option Nat} (h : Pgs D pm) (k p : Nat) : Pgs (D.put (kl k) (ptrD (some p))) (upd pm k (some p)) := by
  have hm := h.tidy.isMap
  refine ⟨fun x => ?_, fun x => ?_, fun l hl => ?_, h.tidy.put (kl_key k) _⟩
  · by_cases e : x = k
    · subst e
      rw [upd_same, Maps.atKey_put_same hm (kl_key _)]
    · rw [upd_other _ _ e, Maps.atKey_put_other (kl_ne e), h.at_]
  · by_cases e : x = k
    · subst e
      rw [upd_same, Maps.has_put_same hm (kl_key _)]; rfl
    · rw [upd_other _ _ e, Maps.has_put_other (kl_ne e), h.has]
  · by_cases e : l = kl k
    · exact ⟨k, e⟩
    · rw [Maps.has_put_other e] at hl
      exact h.key l hl
theorem Pgs.del {D : DU} {pm : Nat → Option Nat} (h : Pgs D pm) (k : Nat) : Pgs (D.del (kl k)) (upd pm k none) := by
  refine ⟨fun x => ?_, fun x => ?_, fun l hl => ?_, h.tidy.del _⟩
  · by_cases e : x = k
    · subst e
      rw [upd_same, Maps.atKey_del_same]; rfl
    · rw [upd_other _ _ e, Maps.atKey_del_other (kl_ne e), h.at_]
  · by_cases e : x = k
    · subst e
      rw [upd_same, Maps.has_del_same]; rfl
    · rw [upd_other _ _ e, Maps.has_del_other (kl_ne e), h.has]
  · by_cases e : l = kl k
    · exact ⟨k, e⟩
    · rw [Maps.has_del_other e] at hl
      exact h.key l hl
def kn : Lit → Nat
  | .int _ n => n.toNat
  | _ => 0
theorem kn_kl (k : Nat) : kn (kl k) = k := by simp [kn, kl]
/-- how many -/
theorem Pgs.size {D : DU} {pm : Nat → Option Nat} (h : Pgs D pm) (hc : Maps.Canon D) (ks : List Nat) (hn : ks.Nodup) (hk : ∀ k, k ∈ ks ↔ (pm k).isSome = true) : Maps.size D = ks.length := by
  obtain ⟨es, rfl, hr, hkey⟩ := hc
  have hp := Maps.apart_of_rising hr
  rw [Maps.size_eq]
  have hhas : ∀ l, WideAt.IsKeyLit l → (Maps.has (.map es : DU) l = true ↔ ∃ x ∈ es, x.1 = l) := by
    intro l hl
    rw [Maps.has_eq, List.any_eq_true]
    constructor
    · rintro ⟨x, hx, he⟩
      exact ⟨x, hx, WideAt.sameKey_eq he⟩
    · rintro ⟨x, hx, rfl⟩
      exact ⟨x, hx, WideAt.sameKey_self hl⟩
  have hk2 : ∀ x ∈ es, ∃ k, x.1 = kl k := fun x hx => h.key x.1 ((hhas x.1 (hkey x hx)).2 ⟨x, hx, rfl⟩)
  have hn2 : (es.map fun x => kn x.1).Nodup := by
    rw [List.Nodup, List.pairwise_map]
    refine hp.imp_of_mem ?_
    intro x y hx hy hne e
    obtain ⟨a, ha⟩ := hk2 x hx
    obtain ⟨b, hb⟩ := hk2 y hy
    rw [ha, hb, kn_kl, kn_kl] at e
    exact hne (by rw [ha, hb, e])
  have hmem : ∀ k, k ∈ (es.map fun x => kn x.1) ↔ k ∈ ks := by
    intro k
    rw [hk, ← h.has, hhas _ (kl_key k), List.mem_map]
    constructor
    · rintro ⟨x, hx, rfl⟩
      obtain ⟨a, ha⟩ := hk2 x hx
      exact ⟨x, hx, by rw [ha, kn_kl]⟩
    · rintro ⟨x, hx, e⟩
      exact ⟨x, hx, by rw [e, kn_kl]⟩
  have h1 := Sp.nodup_le hn2 (fun x hx => (hmem x).1 hx)
  have h2 := Sp.nodup_le hn (fun x hx => (hmem x).2 hx)
  rw [List.length_map] at h1 h2
  omega
/-- every pages' number below m: at most m -/
theorem Pgs.size_le {D : DU} {pm : Nat → Option Nat} (h : Pgs D pm) (hc : Maps.Canon D) (m : Nat) (hm : ∀ k, (pm k).isSome = true → k < m) : Maps.size D ≤ m := by
  have hd := h.size hc ((List.range m).filter fun k => (pm k).isSome) (List.nodup_range.filter _) (fun k => by
    rw [List.mem_filter, List.mem_range]
    exact ⟨fun h => h.2, fun h => ⟨hm k h, h⟩⟩)
  rw [hd]
  have := List.length_filter_le (fun k => (pm k).isSome) (List.range m)
  rw [List.length_range] at this
  exact this
theorem owns_tight {w : World} {P : Program} {k : TypeId} {R : Value → Option (DU × List MemPlace)} {b n : Nat} {D : DU} (h : w.ownsMap P k R b n D) : w.ownsMap P k R b (Maps.size D) D := by
  obtain ⟨es, clock, hb, F, hs, hD⟩ := h
  refine ⟨es, clock, hb, F, ?_, hD⟩
  rw [hD, Maps.size_eq, length_sorted, List.length_map, Array.length_toList]
  exact Nat.le_refl _
/-- BLOCK b OF w IS THE PAGES' MAP -/
def MapAt (w : World) (b : Nat) (pm : Nat → Option Nat) : Prop := (∃ D n, w.ownsMap Try.prog 25 ptrR b n D ∧ Pgs D pm) ∧ ∀ k, (pm k).isSome = true → k < 4503599627370496
theorem keyed64 : Maps.Keyed Try.prog 25 := Maps.int_keyed Try.underlying25
theorem kl_of {k : Nat} (hk : k ≤ TOP) : keyOf Try.prog 25 (.int .u64 (k : Nat)) = some (kl k) := Maps.keyOf_int_mk Try.underlying25 (by unfold TOP at hk; simp [Lit.wf, IntKind.min, IntKind.max, IntKind.signed, IntKind.bits]; omega)
theorem zero_leafp (w : World) : (zeroValue 104).run Try.prog w = .ok (.pointer none) w := by kernel_rfl
theorem MapAt.lt {w : World} {b : Nat} {pm : Nat → Option Nat} (h : MapAt w b pm) : b < w.heap.size := by obtain ⟨⟨D, n, h, _⟩, _⟩ := h; exact h.lt
theorem MapAt.look {w : World} {b : Nat} {pm : Nat → Option Nat} (h : MapAt w b pm) (k : Nat) (hk : k ≤ TOP) : (Instr.lookup 68 (.map (some b)) (.int .u64 (k : Nat)) true).run Try.prog w = .ok (.tuple #[ptrV (pm k), .bool (pm k).isSome]) w := by
  obtain ⟨⟨D, n, h, hp⟩, _⟩ := h
  obtain ⟨v, ps, hrun, hv⟩ := h.look_ok keyed64 Try.underlying68 (z := .pointer none) (zero_leafp w) (zd := .lit (.bool false)) (zp := []) rfl (kl_of hk)
  rw [hp.at_] at hv
  rw [hrun, ptrR_inv hv, hp.has]
theorem mapAt_made (w : World) : MapAt (w.alloc (.map #[] 0)) w.heap.size (fun _ => none) := ⟨⟨.map [], 0, World.ownsMap_made w _ _ _, Pgs.nil⟩, fun k h => by cases h⟩
theorem MapAt.kept {w w' : World} {b : Nat} {pm : Nat → Option Nat} {row : Option Nat} (h : MapAt w b pm) (hg : w.grownBy w' row) (hne : some b ≠ row) : MapAt w' b pm := by
  obtain ⟨⟨D, n, h, hp⟩, hk⟩ := h
  exact ⟨⟨D, n, h.kept hg hne, hp⟩, hk⟩
theorem MapAt.same {w w' : World} {b : Nat} {pm : Nat → Option Nat} (h : MapAt w b pm) (hb : w'.heap[b]? = w.heap[b]?) : MapAt w' b pm := by
  obtain ⟨⟨D, n, ⟨es, clock, h, r⟩, hp⟩, hk⟩ := h
  exact ⟨⟨D, n, ⟨es, clock, hb.trans h, r⟩, hp⟩, hk⟩
theorem MapAt.store {w : World} {b : Nat} {pm : Nat → Option Nat} (h : MapAt w b pm) (k p : Nat) (hk : k < 4503599627370496) :
    ∃ w', (Instr.mapUpdate 68 (.map (some b)) (.int .u64 (k : Nat)) (.pointer (some ⟨p, 0, none⟩))).run Try.prog w = .ok () w' ∧ MapAt w' b (upd pm k (some p)) ∧ w.mapTurned w' b := by
  obtain ⟨⟨D, n, h, hp⟩, hm⟩ := h
  have hs := hp.size_le (h.canon keyed64) _ hm
  obtain ⟨w', hrun, h', ht⟩ := (owns_tight h).store keyed64 Try.underlying68 (by unfold maxLen; omega) (kl_of (k := k) (by unfold TOP; omega)) (val := .pointer (some ⟨p, 0, none⟩)) rfl
  refine ⟨w', hrun, ⟨⟨_, _, h', hp.put k p⟩, fun x hx => ?_⟩, ht⟩
  by_cases e : x = k
  · rw [e]; exact hk
  · rw [upd_other _ _ e] at hx; exact hm x hx
theorem MapAt.drop {w : World} {b : Nat} {pm : Nat → Option Nat} (h : MapAt w b pm) (k : Nat) (hk : k ≤ TOP) (ty : TypeId) :
    ∃ w', (Builtin.delete_ #[68, 25] ty #[.map (some b), .int .u64 (k : Nat)]).run Try.prog w = .ok (.tuple #[]) w' ∧ MapAt w' b (upd pm k none) ∧ w.mapTurned w' b := by
  obtain ⟨⟨D, n, h, hp⟩, hm⟩ := h
  obtain ⟨w', hrun, h', ht⟩ := h.drop keyed64 Try.underlying68 (kl_of hk) ty
  refine ⟨w', hrun, ⟨⟨_, _, h', hp.del k⟩, fun x hx => ?_⟩, ht⟩
  by_cases e : x = k
  · rw [e, upd_same] at hx; cases hx
  · rw [upd_other _ _ e] at hx; exact hm x hx
theorem MapAt.len {w : World} {b : Nat} {pm : Nat → Option Nat} (h : MapAt w b pm) (ks : List Nat) (hn : ks.Nodup) (hk : ∀ k, k ∈ ks ↔ (pm k).isSome = true) (ty : TypeId) : (Builtin.len_ #[68] ty #[.map (some b)]).run Try.prog w = .ok (.int .i64 (ks.length : Nat)) w := by
  obtain ⟨⟨D, n, h, hp⟩, hm⟩ := h
  rw [h.len Try.underlying68 ty, hp.size (h.canon keyed64) ks hn hk]
end Bu
end Go.Proofs.Ytmhkmemaneopeaa
