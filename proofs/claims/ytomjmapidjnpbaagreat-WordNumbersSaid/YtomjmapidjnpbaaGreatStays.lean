/- The walks of the book's Stays and of its marks. -/
import Derived.Test.YtomjmapidjnpbaaGreatBk
import Derived.Deep.Cut
import Derived.Deep.DeepCutAuto
set_option linter.unusedVariables false
set_option linter.unusedSimpArgs false
namespace Go.Proofs.YtomjmapidjnpbaaGreat
open Go.RowKit

set_option maxRecDepth 100000 in
set_option maxHeartbeats 4000000 in
theorem stays_any (w0 : World) (gb off : Nat) (t : TypeId) (cs : List Value) (S : List Nat) (ob : Option Nat) (w : World) (L M : Value) (held : Int) (xs : List Itm) (SL SM : List Nat) (cs' : List Value) (S' : List Nat) (hks : KS w0 gb off t cs S ob w L M held xs SL SM cs' S') (hfew : xs.length ≤ 4000) :
    Calls Tryz.prog 83 #[.pointer (some ⟨gb, off, none⟩)] w fun e w' => e = .returned (.bool true) ∧ ∃ cs'', KS w0 gb off t cs S ob w' L M held xs SL SM cs'' S' := by
  obtain ⟨A1, d1, A1', d1', hL, hM⟩ := hks.kept.slices
  obtain ⟨n, hn⟩ : ∃ n, n = xs.length := ⟨_, rfl⟩
  rw [← hn] at hL hM hfew
  have HI0 : Hid (∃ cs'', KS w0 gb off t cs S ob w L M held xs SL SM cs'' S') := Lib.hid ⟨_, hks⟩
  have HN := Lib.hid hn
  have HL := Lib.hid hL; have HM := Lib.hid hM
  clear hks hn hL hM
  go_enter Tryz.func83, Tryz.ntmps83
  go_wp2_with fail
  go_loopw [3] (fun i wr => ∃ j : Nat, j ≤ n ∧ i = .int .i64 j ∧ Hid (∃ cs'', KS w0 gb off t cs S ob wr L M held xs SL SM cs'' S')) (fun i _ => n - (intOf i).toNat)
  case atStart => exact ⟨0, by omega, rfl, HI0⟩
  case round =>
    clear HI0
    obtain ⟨j, hj, rfl, HI⟩ := hrel
    obtain ⟨cs2, hks⟩ := HI.out
    have c0 := (hks.row.cell off).trans hks.e0
    have c1 := (hks.row.cell (off + 1)).trans hks.e1
    have c3 := (hks.row.cell (off + 3)).trans hks.e3
    have f3 := hks.row.frozen (off + 3)
    have hltc := hks.row.lt
    by_cases hjn : j < n
    · obtain ⟨g, o, d, g', o', d', q1, q2, hd1, hd2, hd3, hd4, hgs, hgs', hg, hg', hcl, hcl'⟩ := hks.kept.slots (by have := HN.out; omega)
      obtain ⟨z, hz0⟩ : ∃ z, xs[j]? = some z := ⟨_, List.getElem?_eq_getElem (show j < xs.length by have := HN.out; omega)⟩
      have hin := hks.kept.it z (List.mem_of_getElem? hz0)
      have l0 := hcl j (by have := HN.out; omega)
      have l0' := hcl' j (by have := HN.out; omega)
      rw [List.getElem?_map, hz0] at l0 l0'
      simp only [Option.map_some, Itm.v, Itm.u] at l0 l0'
      rw [q1, ← HN.out] at c0
      rw [q2, ← HN.out] at c1
      have hgb : ¬ (g = gb) := fun h => hks.notin (by rw [← h]; exact hks.kept.sl _ hgs)
      have hgb' : ¬ (g' = gb) := fun h => hks.notin (by rw [← h]; exact hks.kept.sm _ hgs')
      have HKS := Lib.hid hks
      have HIN := Lib.hid hin
      have hjj : (j : Int) < (n : Int) := by omega
      clear hks hin hcl hcl' hz0 hgs hgs' q1 q2 HI hd1 hd2
      have KEEP : ∀ w' : World, (w'.cell? ⟨gb, off + 3, none⟩ = some (.bool false) ∧ w'.cell? ⟨gb, off, none⟩ = some (.slice (some ⟨g, o, none⟩) n d) ∧ w'.cell? ⟨gb, off + 1, none⟩ = some (.slice (some ⟨g', o', none⟩) n d') ∧ w'.cell? ⟨g, o + j, none⟩ = some (.slice z.A z.n z.c) ∧ w'.cell? ⟨g', o' + j, none⟩ = some (.slice z.B z.n z.d)) →
          ((w'.setCell ⟨gb, off + 3, none⟩ (.bool false)).cell? ⟨gb, off + 3, none⟩ = some (.bool false) ∧ (w'.setCell ⟨gb, off + 3, none⟩ (.bool false)).cell? ⟨gb, off, none⟩ = some (.slice (some ⟨g, o, none⟩) n d) ∧ (w'.setCell ⟨gb, off + 3, none⟩ (.bool false)).cell? ⟨gb, off + 1, none⟩ = some (.slice (some ⟨g', o', none⟩) n d') ∧ (w'.setCell ⟨gb, off + 3, none⟩ (.bool false)).cell? ⟨g, o + j, none⟩ = some (.slice z.A z.n z.c) ∧ (w'.setCell ⟨gb, off + 3, none⟩ (.bool false)).cell? ⟨g', o' + j, none⟩ = some (.slice z.B z.n z.d)) := by
        rintro w' ⟨a0, a1, a2, a3, a4⟩
        exact ⟨World.cell?_setCell_same' _ _ _ (by rw [a0]; rfl), (World.cell?_setCell_other _ _ _ _ (by simp)).trans a1, (World.cell?_setCell_other _ _ _ _ (by simp)).trans a2, (World.cell?_setCell_other _ _ _ _ (by simp [hgb, Ne.symm hgb])).trans a3, (World.cell?_setCell_other _ _ _ _ (by simp [hgb', Ne.symm hgb'])).trans a4⟩
      have KEEP := Lib.hid KEEP
      go_wp2_with fail
      go_region_held3 (fun w' => w'.cell? ⟨gb, off + 3, none⟩ = some (.bool false) ∧ w'.cell? ⟨gb, off, none⟩ = some (.slice (some ⟨g, o, none⟩) n d) ∧ w'.cell? ⟨gb, off + 1, none⟩ = some (.slice (some ⟨g', o', none⟩) n d') ∧ w'.cell? ⟨g, o + j, none⟩ = some (.slice z.A z.n z.c) ∧ w'.cell? ⟨g', o' + j, none⟩ = some (.slice z.B z.n z.d))
        (first | exact ⟨c3, c0, c1, l0, l0'⟩ | exact KEEP.out _ (by assumption))
        (first | (go_at_call 24; refine (same_yes z.A z.B z.n z.c z.d z.bs wr.drew (HIN.out.own.isB.below (Below.refl _ _).drew) (HIN.out.copy.isB.below (Below.refl _ _).drew)).mono ?_; rintro e w' ⟨rfl, mm, rfl⟩))
      go_wp2_with fail
      go_roundw
      case rel => exact ⟨j + 1, by omega, by go_num, Lib.hid ⟨_, (HKS.out.drewN _).bad⟩⟩
      case measure => simp [intOf]; omega
    · rw [HL.out] at c0
      have hjj : ¬ ((j : Int) < (n : Int)) := by omega
      have HKS := Lib.hid hks
      clear hks
      go_wp2_with fail
      go_ret
      exact ⟨rfl, _, HKS.out⟩
end Go.Proofs.YtomjmapidjnpbaaGreat
