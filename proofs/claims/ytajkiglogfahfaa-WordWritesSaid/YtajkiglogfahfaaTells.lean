/- The walk of the law's tells. -/
import Derived.Test.YtajkiglogfahfaaWrows
set_option linter.unusedVariables false
set_option linter.unusedSimpArgs false
namespace Go.Proofs.Ytajkiglogfahfaa
open Go.RowKit

theorem tells_keep {w w1 : World} {B gx : Nat} {es : List En} {cs : List Value} {L M : Value} {SL SM S : List Nat} {A : Option Addr} {n c : Nat} {bs : List Nat} (h : Wrow w B gx es cs L M SL SM S) (hb : Below w.heap.size w w1) (ho : Own w1 w.heap.size A n c bs) (hB : B ≤ w.heap.size) (hn : n ≤ 70368744177664) (m : Nat) :
    Calls Try.prog 82 #[.pointer (some ⟨gx, 2, none⟩), .slice A n c] (w1.drewN m) fun e w' => e = .returned (.tuple #[]) ∧ (∃ cs' S', Wrow w' B gx es cs' L M SL SM S') ∧ Below B w w' := by
  have h1 := (h.below hb).drewN m
  have hob : ∀ k, (Value.slice A n c).ownBlock = some k → w.heap.size ≤ k := by
    intro k hk
    rcases ho.1.2 with ⟨hv, _⟩ | ⟨g, cap, cur, hv, hg, _⟩
    · rw [hv] at hk; cases hk
    · rw [hv] at hk
      simp [Value.ownBlock] at hk
      omega
  refine (keep_any gx 2 51 cs S A n c bs (w1.drewN m) h1.bk ((ho.mono (Nat.zero_le _)).below (below_drewN (Below.refl _ _) m)) hn fun k hk => ⟨fun hm => ?_, ?_⟩).mono ?_
  · have := h.bk.lt k hm; have := hob k hk; omega
  · have := h.bk.row.lt; have := hob k hk; omega
  · rintro e w' ⟨he, cs', S', q1, q2, q3, q4⟩
    have hb' : Below w.heap.size w (w1.drewN m) := below_drewN hb m
    refine ⟨he, ⟨cs', S', h.kept hb' q1 q2 (fun k hk => ?_) q4 hB⟩, below_chg (hb'.mono hB) hB q2 (fun x hx => ?_)⟩
    · rcases q3 k hk with h2 | h2 | h2
      · exact .inl h2
      · exact .inr (Nat.le_trans hb'.size h2)
      · exact .inr (hob k h2)
    · rcases List.mem_cons.1 hx with rfl | hx
      · exact h.bs.1
      · exact h.bs.2.1 x hx
set_option maxRecDepth 100000 in
set_option maxHeartbeats 4000000 in
theorem tells_any (B gx : Nat) (es : List En) (cs : List Value) (L M : Value) (SL SM S : List Nat) (w : World) (h : Wrow w B gx es cs L M SL SM S) (hB : B ≤ w.heap.size) (i : Nat) (x : En) (hx : es[i]? = some x) (hi : es.length ≤ 1000000) (hl : x.s.b.length ≤ 70368744177664) :
    Calls Try.prog 28 #[.pointer (some ⟨gx, 0, none⟩), .int .i64 (i : Nat)] w fun e w' => e = .returned (.bool true) ∧ (∃ cs' S', Wrow w' B gx es cs' L M SL SM S') ∧ Below B w w' := by
  obtain ⟨gw, rw, gr, rr, b, er⟩ := x
  simp only at hl
  have HX := Lib.hid hx
  have hil : i < es.length := (List.getElem?_eq_some_iff.1 hx).1
  obtain ⟨ne, hne⟩ : ∃ ne, ne = es.length := ⟨_, rfl⟩
  rw [← hne] at hil hi
  have HNE := Lib.hid hne
  have HI0 : Hid (∃ cs' S', Wrow w B gx es cs' L M SL SM S') := Lib.hid ⟨_, _, h⟩
  have HB0 : Hid (Below B w w) := Lib.hid (Below.refl _ _)
  obtain ⟨nb, hnb⟩ : ∃ nb, nb = b.length := ⟨_, rfl⟩
  rw [← hnb] at hl
  have HNB := Lib.hid hnb
  have hii : (i : Int) < (ne : Int) := by omega
  have hi0 : (0 : Int) ≤ (i : Int) := by omega
  have q1 : ((nb : Int) != (nb : Int)) = false := by simp
  have q2 : ((er : Int) != (er : Int)) = false := by simp
  have q3 : ((bs2s b).toList != (bs2s b).toList) = false := by simp
  clear hx hne h hnb
  go_enter Try.func28, Try.ntmps28
  go_wp2_with fail
  go_loopw [5] (fun k wr => ∃ j : Nat, j ≤ 2 ∧ k = .int .i64 j ∧ Hid (∃ cs' S', Wrow wr B gx es cs' L M SL SM S') ∧ Hid (Below B w wr)) (fun k _ => 2 - (intOf k).toNat)
  case atStart => exact ⟨0, by omega, rfl, HI0, HB0⟩
  case round =>
    clear HI0 HB0
    obtain ⟨j, hj, rfl, HI, HBW⟩ := hrel
    by_cases hj2 : j < 2
    · obtain ⟨cs1, S1, hr⟩ := HI.out
      obtain ⟨g, o, c, g', o', c', rfl, rfl, hg, hg', l0, l1⟩ := hr.at_ HX.out
      have hcells := hr.cells
      rw [← HNE.out] at hcells
      obtain ⟨c0, c1, _, _, hgx⟩ := hcells
      have hok := hr.ok _ (List.mem_of_getElem? HX.out)
      have HOK := Lib.hid hok
      have HR := Lib.hid hr
      have HWA := Lib.hid (wall_any gw rw ⟨b, er⟩ wr hok.wr (by have := HNB.out; simp only; omega))
      clear hr hok HI
      go_wp2_with fail
      refine HWA.out.mono ?_
      try simp only
      rw [← HNB.out]
      rintro e1 w1 ⟨⟨A1, c2, rfl, hown⟩, hb⟩
      have hr1 := HR.out.below hb
      obtain ⟨g2, o2, d2, g2', o2', d2', e1, e2, hg2, hg2', l0', l1'⟩ := hr1.at_ HX.out
      injection e1 with e1 _ e1'
      injection e1 with e1
      injection e1 with e1 e1''
      injection e2 with e2 _ e2'
      injection e2 with e2
      injection e2 with e2 e2''
      subst e1 e1' e1'' e2 e2' e2''
      have hcells := hr1.cells
      rw [← HNE.out] at hcells
      obtain ⟨c0', c1', _, _, hgx'⟩ := hcells
      have hok1 := hr1.ok _ (List.mem_of_getElem? HX.out)
      obtain ⟨A3, c3, d0, d1, _, _, hlt3, hB3, _⟩ := hok1.rf.open_
      simp only at d0 d1 l0' l1'
      rw [← HNB.out] at d0
      have hc1 : ∀ m, (convert 22 9 (.slice A1 nb c2)).run Try.prog (w1.drewN m) = .ok (.string (bs2s b)) (w1.drewN m) := fun m => run_string_of 22 9 A1 nb c2 w1.heap.size b _ Try.underlying22 Try.underlying9 (hown.isB.below (below_drewN (Below.refl _ _) m))
      have hc2 : ∀ m, (convert 22 9 (.slice A3 nb c3)).run Try.prog (w1.drewN m) = .ok (.string (bs2s b)) (w1.drewN m) := fun m => run_string_of 22 9 A3 nb c3 w1.heap.size b _ Try.underlying22 Try.underlying9 (by have := hB3.1.below (below_drewN (Below.refl _ _) m); simp only at this; rw [← HNB.out] at this; exact this)
      have HLEN : Hid (∀ m, Calls Try.prog 48 #[.pointer (some ⟨gw, 0, none⟩)] (w1.drewN m) fun e w' => e = .returned (.int .i64 (nb : Nat)) ∧ w' = w1.drewN m) := Lib.hid fun m => (wlen_any gw rw ⟨b, er⟩ (w1.drewN m) (hok1.wr.below (below_drewN (Below.refl _ _) m))).mono fun e w' h => ⟨by rw [h.1, HNB.out], h.2.symm⟩
      have HERR : Hid (∀ m, Calls Try.prog 35 #[.pointer (some ⟨gw, 0, none⟩)] (w1.drewN m) fun e w' => e = .returned (.int .i64 (er : Nat)) ∧ w' = w1.drewN m) := Lib.hid fun m => (werr_any gw rw ⟨b, er⟩ (w1.drewN m) (hok1.wr.below (below_drewN (Below.refl _ _) m))).mono fun e w' h => ⟨h.1, h.2.symm⟩
      have HBB := Lib.hid hb
      have HOWN := Lib.hid hown
      have hsz := HBW.out.size
      clear hr1 hok1 hB3 hown hb HWA
      go_wp2_with fail
      go_quiet (first
        | (go_at_call 48; exact Calls.quiet_of_same (HLEN.out _))
        | (go_at_call 35; exact Calls.quiet_of_same (HERR.out _)))
      clear hc1 hc2 c0 c1 c0' c1' d0 d1 l0 l1 l0' l1'
      go_wp2_with fail
      refine (tells_keep HR.out HBB.out HOWN.out (by omega) hl nq).mono ?_
      rintro e w3 ⟨rfl, hi3, hb3⟩
      have HI3 := Lib.hid hi3
      have HB3 := Lib.hid (HBW.out.trans hb3)
      clear hi3 hb3
      go_wp2_with fail
      go_roundw
      case rel => exact ⟨j + 1, by omega, by go_num, HI3, HB3⟩
      case measure => simp [intOf]; omega
    · go_wp2_with fail
      go_ret
      exact ⟨rfl, HI.out, HBW.out⟩
end Go.Proofs.Ytajkiglogfahfaa
