/- The walk of the book's Apart. -/
import Derived.Test.YtomjmapidjnpbaaGreatApartP
import Derived.Test.YtomjmapidjnpbaaGreatStays
set_option linter.unusedVariables false
set_option linter.unusedSimpArgs false
namespace Go.Proofs.YtomjmapidjnpbaaGreat
open Go.RowKit

set_option maxRecDepth 100000 in
set_option maxHeartbeats 4000000 in
theorem apart_any (gb off : Nat) (t : TypeId) (cs : List Value) (S : List Nat) (w : World) (hb : Bk w gb off t cs S) :
    Calls Tryz.prog 19 #[.pointer (some ⟨gb, off, none⟩), .func (.func 20) #[] #[]] w fun e w' => e = .returned (.bool true) ∧ Chg (gb :: S) w w' := by
  obtain ⟨hrow, ⟨ht1, ht2⟩, hnot, xs, L, M, held, SL, SM, e0, e1, e2, e3, hfew, hk⟩ := hb
  have hks : KS w gb off t cs S none w L M held xs SL SM cs S := ⟨hrow, e0, e1, e2, e3, fun _ _ => rfl, hk, Chg.refl _ _, fun k h => .inl h, hnot⟩
  have HS := Lib.hid (stays_any w gb off t cs S none w L M held xs SL SM cs S hks hfew)
  obtain ⟨n, hn⟩ : ∃ n, n = xs.length := ⟨_, rfl⟩
  rw [← hn] at hfew
  have HN := Lib.hid hn
  have HT1 := Lib.hid ht1; have HT2 := Lib.hid ht2; have HNOT := Lib.hid hnot
  clear hrow hnot e0 e1 e2 e3 hk hks hn ht1 ht2
  go_enter Tryz.func19, Tryz.ntmps19
  go_wp2_with fail
  refine HS.out.mono ?_
  rintro e w1 ⟨rfl, cs1, hks⟩
  have hap0 : ApI w w1 gb off t cs1 L xs SL (gb :: S) 0 := ⟨hks.row, hks.kept.lists, fun x hx => (hks.kept.it x hx).own.room, fun k x _ h => absurd h (by omega), hks.chg⟩
  have HI0 := Lib.hid hap0
  have HE0 := Lib.hid hks.e0
  have HE1 := Lib.hid hks.e1
  have HE2 := Lib.hid hks.e2
  have HAP := Lib.hid hks.kept.ap
  have HVS : Hid (∀ x ∈ xs, ∀ k, x.v.ownBlock = some k → k ∈ gb :: S) := Lib.hid fun x hx k hk => by simp; exact .inr ((hks.kept.it x hx).vs k hk)
  obtain ⟨A1, d1, A1', d1', hL, hM⟩ := hks.kept.slices
  rw [← HN.out] at hL
  have HL := Lib.hid hL
  clear hap0 hks hL hM HS
  go_wp2_with fail
  go_loopw [5] (fun i wr => ∃ k : Nat, k ≤ n ∧ i = .int .i64 k ∧ Hid (ApI w wr gb off t cs1 L xs SL (gb :: S) k)) (fun i _ => n - (intOf i).toNat)
  case atStart => exact ⟨0, by omega, rfl, HI0⟩
  case round =>
    clear HI0
    obtain ⟨k, hkn, rfl, HI⟩ := hrel
    have c0 := (HI.out.row.cell off).trans HE0.out
    rw [HL.out] at c0
    by_cases hlt : k < n
    · have hx0 : ∃ x, xs[k]? = some x := ⟨_, List.getElem?_eq_getElem (show k < xs.length by have := HN.out; omega)⟩
      obtain ⟨x, hx⟩ := hx0
      have hroom := HI.out.room x (List.mem_of_getElem? hx)
      obtain ⟨A2, c2, q1, hd, _, g, o, hf, hg⟩ := HI.out.lists.form
      have hf := hf.out (by have := HN.out; omega)
      have hg := hg (by have := HN.out; omega)
      obtain ⟨rfl, _, hcl⟩ := hf
      have l0 := hcl k (by have := HN.out; omega)
      rw [List.getElem?_map, hx] at l0
      simp only [Option.map_some, Itm.v] at l0
      rw [← HL.out, q1, ← HN.out] at c0
      have hki : (k : Int) < (n : Int) := by omega
      have hk0 : (0 : Int) ≤ (k : Int) := by omega
      have hcle := hroom.le
      obtain ⟨c, hc⟩ : ∃ c, c = x.c := ⟨_, rfl⟩
      obtain ⟨Ax, hAx⟩ : ∃ Ax, Ax = x.A := ⟨_, rfl⟩
      rw [← hc, ← hAx] at l0
      rw [← hc] at hcle
      have HC := Lib.hid hc
      have HAX := Lib.hid hAx
      have HX := Lib.hid hx
      have HR := Lib.hid hroom
      clear hx hroom hcl q1 hc hd hAx
      go_wp2_with fail
      go_quiet (fail)
      have HI1 := Lib.hid (HI.out.drewN nq)
      clear HI c0 l0
      go_wp2_with fail
      go_loopw [7] (fun j wq => ∃ i : Nat, i ≤ c ∧ j = .int .i64 i ∧ Hid (ApI w wq gb off t cs1 L xs SL (gb :: S) k) ∧ Hid (Marked wq x i (markOf k))) (fun j _ => c - (intOf j).toNat)
      case atStart =>
        refine ⟨0, by omega, rfl, HI1, Lib.hid ?_⟩
        intro g' hg'
        obtain ⟨l, h1, h2⟩ := HR.out.row g' hg'
        exact ⟨l, h1, h2, fun j hj => absurd hj (by omega)⟩
      case round =>
        clear HI1
        obtain ⟨i, hic, rfl, HI, HM⟩ := hrel
        by_cases hil : i < c
        · have hob : ∃ gx, x.v.ownBlock = some gx := by
            rcases h : x.v.ownBlock with _ | gx
            · have := (HR.out.none_ h).2
              have := HC.out
              omega
            · exact ⟨gx, rfl⟩
          obtain ⟨gx, hgx⟩ := hob
          have hA := HR.out.some_ gx hgx
          rw [← HAX.out] at hA
          obtain ⟨l, hl1, hl2, _⟩ := HM.out gx hgx
          have hlc := hl1.cell i
          rw [List.getElem?_eq_getElem (show i < l.length by have := HC.out; omega)] at hlc
          obtain ⟨u0, hu0⟩ : ∃ u0, u0 = l[i]'(by have := HC.out; omega) := ⟨_, rfl⟩
          rw [← hu0] at hlc
          have hlf := hl1.frozen i
          have hlt2 := hl1.lt
          have HGX := Lib.hid hgx
          have hii : (i : Int) < (c : Int) := by omega
          subst hA
          clear hl1 hl2 hu0 hgx
          go_wp2_with (go_at_call 20; refine (marks_any k i wr (by omega) (by omega)).mono ?_; rintro e w' ⟨rfl, rfl⟩)
          go_roundw
          case rel => exact ⟨i + 1, by omega, by go_num, Lib.hid (HI.out.store HT2.out HAP.out HX.out HGX.out (HVS.out x (List.mem_of_getElem? HX.out) _ HGX.out) i _), Lib.hid (HM.out.next HGX.out (by have := HC.out; omega))⟩
          case measure => simp [intOf]; omega
        · have HIC : Hid (i = x.c) := Lib.hid (by have := HC.out; omega)
          go_wp2_with fail
          go_roundw
          case rel => exact ⟨k + 1, by omega, by go_num, Lib.hid (HI.out.next HX.out (by have := HM.out; rwa [HIC.out] at this))⟩
          case measure => simp [intOf]; omega
    · have HKN : Hid (k = n) := Lib.hid (by omega)
      go_wp2_with fail
      have HI2 : Hid (ApI w wr gb off t cs1 L xs SL (gb :: S) n) := Lib.hid (by have := HI.out; rwa [HKN.out] at this)
      clear HI c0 HKN
      go_loopw [8] (fun i wq => ∃ k : Nat, k ≤ n ∧ i = .int .i64 k ∧ Hid (ApI w wq gb off t cs1 L xs SL (gb :: S) n)) (fun i _ => n - (intOf i).toNat)
      case atStart => exact ⟨0, by omega, rfl, HI2⟩
      case round =>
        clear HI2
        obtain ⟨k2, hkn2, rfl, HI⟩ := hrel
        have c0 := (HI.out.row.cell off).trans HE0.out
        by_cases hlt2 : k2 < n
        · have hx0 : ∃ x, xs[k2]? = some x := ⟨_, List.getElem?_eq_getElem (show k2 < xs.length by have := HN.out; omega)⟩
          obtain ⟨x, hx⟩ := hx0
          have hroom := HI.out.room x (List.mem_of_getElem? hx)
          have hmark := HI.out.marks k2 x hx hlt2
          obtain ⟨A2, c2, q1, hd, _, g, o, hf, hg⟩ := HI.out.lists.form
          have hf := hf.out (by have := HN.out; omega)
          have hg := hg (by have := HN.out; omega)
          obtain ⟨rfl, _, hcl⟩ := hf
          have l0 := hcl k2 (by have := HN.out; omega)
          rw [List.getElem?_map, hx] at l0
          simp only [Option.map_some, Itm.v] at l0
          rw [q1, ← HN.out] at c0
          have hki : (k2 : Int) < (n : Int) := by omega
          have hk0 : (0 : Int) ≤ (k2 : Int) := by omega
          have hcle := hroom.le
          obtain ⟨c, hc⟩ : ∃ c, c = x.c := ⟨_, rfl⟩
          obtain ⟨Ax, hAx⟩ : ∃ Ax, Ax = x.A := ⟨_, rfl⟩
          rw [← hc, ← hAx] at l0
          rw [← hc] at hcle
          have HC := Lib.hid hc
          have HAX := Lib.hid hAx
          have HX := Lib.hid hx
          have HR := Lib.hid hroom
          have HM := Lib.hid hmark
          clear hx hroom hmark hcl q1 hc hd hAx
          go_wp2_with fail
          go_quiet (fail)
          have HI1 := Lib.hid (HI.out.drewN nq)
          clear c0 l0
          go_wp2_with fail
          go_loopw [10] (fun j wq => ∃ i : Nat, i ≤ c ∧ j = .int .i64 i ∧ Hid (ApI w wq gb off t cs1 L xs SL (gb :: S) n)) (fun j _ => c - (intOf j).toNat)
          case atStart => exact ⟨0, by omega, rfl, HI1⟩
          case round =>
            clear HI1 HI HM
            obtain ⟨i, hic, rfl, HI⟩ := hrel
            have HM := Lib.hid (HI.out.marks k2 x HX.out hlt2)
            by_cases hil : i < c
            · have hob : ∃ gx, x.v.ownBlock = some gx := by
                rcases h : x.v.ownBlock with _ | gx
                · have := (HR.out.none_ h).2
                  have := HC.out
                  omega
                · exact ⟨gx, rfl⟩
              obtain ⟨gx, hgx⟩ := hob
              have hA := HR.out.some_ gx hgx
              rw [← HAX.out] at hA
              obtain ⟨l, hl1, hl2, hl3⟩ := HM.out gx hgx
              have hlc := hl1.cell i
              rw [hl3 i (by have := HC.out; omega)] at hlc
              unfold u8 at hlc
              have hlt2 := hl1.lt
              have hii : (i : Int) < (c : Int) := by omega
              have hi0 : (0 : Int) ≤ (i : Int) := by omega
              have hne : ((markOf k2 i : Int) != (markOf k2 i : Int)) = false := by simp
              subst hA
              clear hl1 hl2 hl3 hgx
              go_wp2_with fail
              go_quiet ((go_at_call 20; exact Calls.quiet_of_same ((marks_any k2 i _ (by omega) (by omega)).mono fun e w' h => ⟨h.1, h.2.symm⟩)))
              go_wp2_with fail
              go_roundw
              case rel => exact ⟨i + 1, by omega, by go_num, Lib.hid (HI.out.drewN _)⟩
              case measure => simp [intOf]; omega
            · go_wp2_with fail
              go_roundw
              case rel => exact ⟨k2 + 1, by omega, by go_num, HI⟩
              case measure => simp [intOf]; omega
        · rw [HL.out] at c0
          have f0 := HI.out.row.frozen off
          have f1 := HI.out.row.frozen (off + 1)
          have f2 := HI.out.row.frozen (off + 2)
          have c1 := (HI.out.row.cell (off + 1)).trans HE1.out
          have c2 := (HI.out.row.cell (off + 2)).trans HE2.out
          have hlt3 := HI.out.row.lt
          go_wp2_with fail
          go_ret
          exact ⟨rfl, ((HI.out.chg.set_ (p := ⟨gb, off, none⟩) (.inl (by simp)) _).set_ (p := ⟨gb, off + 1, none⟩) (.inl (by simp)) _).set_ (p := ⟨gb, off + 2, none⟩) (.inl (by simp)) _⟩
end Go.Proofs.YtomjmapidjnpbaaGreat
