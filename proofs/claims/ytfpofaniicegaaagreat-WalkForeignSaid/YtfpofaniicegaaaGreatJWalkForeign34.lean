/- Texts of this claim, one behind the other: RtA. -/
import Derived.Test.YtfpofaniicegaaaGreatJWalkForeign30
import Derived.Test.YtfpofaniicegaaaGreatJWalkForeign23
import Derived.Deep.RegionHeld3
import Derived.Deep.Cut
import Derived.Deep.CutBlock
import Derived.StillTailTactics
/- The walk of the document's Translate. -/
set_option linter.unusedVariables false
set_option linter.unusedSimpArgs false
namespace Go.Proofs.YtfpofaniicegaaaGreat
open Go.RowKit
open S64
namespace Bu
set_option maxRecDepth 100000 in
theorem rindex_any (virt lv : Nat) (w : World) (hv : virt ≤ 18446744073709551615) (hl : lv < 3) :
    Calls Tryz.prog 40 #[.int .u64 (virt : Nat), .int .i64 (lv : Nat)] w fun e w' => e = .returned (.int .u64 (ixv virt lv : Nat)) ∧ w = w' := by
  have e0 : ixv virt 0 = virt / 1073741824 % 512 := rfl
  have e1 : ixv virt 1 = virt / 2097152 % 512 := rfl
  have e2 : ixv virt 2 = virt / 4096 % 512 := rfl
  go_enter Tryz.func40, Tryz.ntmps40
  obtain rfl | rfl | rfl : lv = 0 ∨ lv = 1 ∨ lv = 2 := by omega
  · rw [e0]
    clear e0 e1 e2
    go_wp2_with fail
    go_ret
    refine ⟨?_, rfl⟩
    congr 2
  · rw [e1]
    clear e0 e1 e2
    go_wp2_with fail
    go_ret
    refine ⟨?_, rfl⟩
    congr 2
  · rw [e2]
    clear e0 e1 e2
    go_wp2_with fail
    go_ret
    refine ⟨?_, rfl⟩
    congr 2
/-- while the document's Translate goes -/
structure TS (Z : Nat → Prop) (B g : Nat) (M : PM) (w : World) (F : Nat) (t b v x : Bool) (wr : World) : Prop where
  dm : DM Z wr B g M
  ch : ChgP Z w wr
  r9 : Row wr w.heap.size 33 [.int .i64 0, .int .u64 0]
  r11 : Row wr (w.heap.size + 1) 97 [.int .u64 (F : Nat), .bool t, .bool b, .bool v, .bool x]
theorem TS.chg {Z : Nat → Prop} {B g : Nat} {M : PM} {w : World} {F : Nat} {t b v x : Bool} {wr wx : World} (h : TS Z B g M w F t b v x wr) (hd : DM Z wx B g M) (hc : ChgP Z wr wx) (hz : ∀ k, Z k → k < w.heap.size) : TS Z B g M w F t b v x wx :=
  ⟨hd, h.ch.trans hc (fun x hx => .inl hx), hc.row h.r9 (fun hk => by have := hz _ hk; omega), hc.row h.r11 (fun hk => by have := hz _ hk; omega)⟩
theorem TS.below {Z : Nat → Prop} {B g : Nat} {M : PM} {w : World} {F : Nat} {t b v x : Bool} {wr wx : World} (h : TS Z B g M w F t b v x wr) (hb : Below wr.heap.size wr wx) : TS Z B g M w F t b v x wx :=
  ⟨h.dm.below hb, h.ch.trans (ChgP.of_below (Z := fun _ => False) hb) (fun x hx => hx.elim), h.r9.below hb h.r9.lt, h.r11.below hb h.r11.lt⟩
theorem TS.drew {Z : Nat → Prop} {B g : Nat} {M : PM} {w : World} {F : Nat} {t b v x : Bool} {wr : World} (h : TS Z B g M w F t b v x wr) : TS Z B g M w F t b v x wr.drew := h.below ((Below.refl _ _).drew)
/-- what the loop of Translate knows -/
def TG (M : PM) (virt : Nat) (access : Int) (G : Nat × Nat) (l F no : Nat) (t b v x : Bool) : Prop :=
  (no ≠ 0 → G = (0, no)) ∧ (no = 0 → t = true → l < 3 ∧ F ≤ 18446744073709547520 ∧ G = trw M virt access (3 - l) l F) ∧
  (no = 0 → t = false → F < 4294967296 ∧ G = if access = 2 ∧ v = false then (0, 43) else if access = 3 ∧ x = false then (0, 44) else (F + virt % (if b = true then 2097152 else 4096), 0))
theorem TG.step {M : PM} {virt : Nat} {access : Int} {G : Nat × Nat} {l F : Nat} {b v x : Bool} (h : TG M virt access G l F 0 true b v x) :
    TG M virt access G (l + 1) (entM M F (ixv virt l) l).1.F (entM M F (ixv virt l) l).2 (entM M F (ixv virt l) l).1.t (entM M F (ixv virt l) l).1.b (entM M F (ixv virt l) l).1.w (entM M F (ixv virt l) l).1.x := by
  obtain ⟨hl, hF, hG⟩ := h.2.1 rfl rfl
  rw [show 3 - l = (3 - (l + 1)) + 1 by omega, trw] at hG
  refine ⟨fun hn => ?_, fun hn ht => ?_, fun hn ht => ?_⟩
  · rw [hG, if_pos hn]
  · have hy := entM_t (M := M) (tab := F) (i := ixv virt l) (lv := l) (y := (entM M F (ixv virt l) l).1) (by rw [← hn])
    rw [if_neg (by omega), if_pos ht] at hG
    refine ⟨by have := hy.1 ht; omega, by have := hy.2.1; omega, hG⟩
  · have hy := entM_t (M := M) (tab := F) (i := ixv virt l) (lv := l) (y := (entM M F (ixv virt l) l).1) (by rw [← hn])
    rw [if_neg (by omega), if_neg (by rw [ht]; decide)] at hG
    refine ⟨hy.2.1, ?_⟩
    rw [hG]
    have hr : rch l = if (entM M F (ixv virt l) l).1.b = true then 2097152 else 4096 := by
      have h5 := hy.2.2.2.2.1
      rw [ht] at h5
      cases hb : (entM M F (ixv virt l) l).1.b with
      | true => rw [if_pos rfl, (hy.2.2.2.1 hb).1]; rfl
      | false =>
        rw [hb] at h5
        have : ¬ l < 2 := fun hh => by simp [hh] at h5
        rw [show l = 2 by omega]; rfl
    rw [hr]
theorem TS.put {Z : Nat → Prop} {B g : Nat} {M : PM} {w : World} {F : Nat} {t b v x : Bool} {wr : World} (h : TS Z B g M w F t b v x wr) (hz : ∀ k, Z k → k < w.heap.size) (hB : B ≤ w.heap.size) (F' : Nat) (t' b' v' x' : Bool) :
    TS Z B g M w F' t' b' v' x' (((((wr.setCell ⟨w.heap.size + 1, 0, none⟩ (.int .u64 (F' : Nat))).setCell ⟨w.heap.size + 1, 1, none⟩ (.bool t')).setCell ⟨w.heap.size + 1, 2, none⟩ (.bool b')).setCell ⟨w.heap.size + 1, 3, none⟩ (.bool v')).setCell ⟨w.heap.size + 1, 4, none⟩ (.bool x')) := by
  have hc : ChgP (fun k => k = w.heap.size + 1) wr (((((wr.setCell ⟨w.heap.size + 1, 0, none⟩ (.int .u64 (F' : Nat))).setCell ⟨w.heap.size + 1, 1, none⟩ (.bool t')).setCell ⟨w.heap.size + 1, 2, none⟩ (.bool b')).setCell ⟨w.heap.size + 1, 3, none⟩ (.bool v')).setCell ⟨w.heap.size + 1, 4, none⟩ (.bool x')) :=
    ((((ChgP.set_ (Z := fun k => k = w.heap.size + 1) (ChgP.refl _ wr) (p := ⟨w.heap.size + 1, 0, none⟩) (.inl rfl) _).set_ (p := ⟨w.heap.size + 1, 1, none⟩) (.inl rfl) _).set_ (p := ⟨w.heap.size + 1, 2, none⟩) (.inl rfl) _).set_ (p := ⟨w.heap.size + 1, 3, none⟩) (.inl rfl) _).set_ (p := ⟨w.heap.size + 1, 4, none⟩) (.inl rfl) _
  refine ⟨h.dm.chg hc (fun k hk e => ?_), h.ch.trans hc (fun k hk => .inr (by have h : k = w.heap.size + 1 := hk; omega)), hc.row h.r9 (fun e => by have e : w.heap.size = w.heap.size + 1 := e; omega), ?_⟩
  · have e : k = w.heap.size + 1 := e
    rcases hk with hk | hk
    · have := hz k hk; omega
    · omega
  · have q := ((((h.r11.set_ 0 (.int .u64 (F' : Nat))).set_ 1 (.bool t')).set_ 2 (.bool b')).set_ 3 (.bool v')).set_ 4 (.bool x')
    simpa only [List.set_cons_zero, List.set_cons_succ] using q
/-- how Translate ends -/
theorem TS.fin {Z : Nat → Prop} {B g : Nat} {M : PM} {w : World} {F : Nat} {t b v x : Bool} {wr : World} (h : TS Z B g M w F t b v x wr) (hz : ∀ k, Z k → k < w.heap.size) (hB : B ≤ w.heap.size) (no vi : Nat) {W : World}
    (hW : W = (wr.setCell ⟨w.heap.size, 0, none⟩ (.int .i64 (no : Nat))).setCell ⟨w.heap.size, 1, none⟩ (.int .u64 (vi : Nat))) :
    (DM Z W B g M ∧ ChgP Z w W) ∧ W.cell? ⟨w.heap.size, 0, none⟩ = some (.int .i64 (no : Nat)) ∧ W.cell? ⟨w.heap.size, 1, none⟩ = some (.int .u64 (vi : Nat)) := by
  subst hW
  have hc : ChgP (fun k => k = w.heap.size) wr ((wr.setCell ⟨w.heap.size, 0, none⟩ (.int .i64 (no : Nat))).setCell ⟨w.heap.size, 1, none⟩ (.int .u64 (vi : Nat))) := (ChgP.set_ (Z := fun k => k = w.heap.size) (ChgP.refl _ wr) (p := ⟨w.heap.size, 0, none⟩) (.inl rfl) _).set_ (p := ⟨w.heap.size, 1, none⟩) (.inl rfl) _
  have q := (h.r9.set_ 0 (.int .i64 (no : Nat))).set_ 1 (.int .u64 (vi : Nat))
  refine ⟨⟨h.dm.chg hc (fun k hk e => ?_), h.ch.trans hc (fun k hk => .inr (by have h : k = w.heap.size := hk; omega))⟩, q.cell 0, q.cell 1⟩
  have e : k = w.heap.size := e
  rcases hk with hk | hk
  · have := hz k hk; omega
  · omega
set_option maxRecDepth 100000 in
set_option maxHeartbeats 4000000 in
theorem rtr_any {Z : Nat → Prop} {w : World} {B g : Nat} {M : PM} (h : DM Z w B g M) (root virt : Nat) (access : Int) (hr : root ≤ 18446744073709551615) (hv : virt ≤ 18446744073709551615) :
    Calls Tryz.prog 22 #[.pointer (some ⟨g, 0, none⟩), .int .u64 (root : Nat), .int .u64 (virt : Nat), .int .i64 access] w fun e w' => e = .returned (.tuple #[.int .u64 ((trI M root virt access).1 : Nat), .agg #[.int .i64 ((trI M root virt access).2 : Nat), .int .u64 ((if (trI M root virt access).2 = 0 then 0 else virt : Nat) : Nat)]]) ∧ DM Z w' B g M ∧ ChgP Z w w' := by
  have HM := Lib.hid h
  have HZ : Hid (∀ k, Z k → k < w.heap.size) := Lib.hid (fun k hk => (h.lt k hk).2)
  have HBY := Lib.hid h.byte
  obtain ⟨G, hG⟩ : ∃ G, G = trI M root virt access := ⟨_, rfl⟩
  have HG := Lib.hid hG
  rw [← hG]
  clear h hG
  -- what the switch finds
  have H0 : ∃ no : Nat, TG M virt access G 0 root no true false false false ∧
      ((access < 1 ∨ 3 < access) ∧ no = 1 ∨ (¬ access < 1 ∧ ¬ 3 < access) ∧ ((549755813888 : Int) ≤ (virt : Int) ∧ no = 40 ∨ ¬ (549755813888 : Int) ≤ (virt : Int) ∧ ((0 : Int) < (root : Int) % 4096 ∧ no = 42 ∨ ¬ (0 : Int) < (root : Int) % 4096 ∧ no = 0))) := by
    have hGG := HG.out
    unfold trI at hGG
    by_cases h1 : access < 1 ∨ 3 < access
    · rw [if_pos h1] at hGG
      exact ⟨1, ⟨fun _ => hGG, (fun h => absurd h (by decide)), fun h => absurd h (by decide)⟩, .inl ⟨h1, rfl⟩⟩
    rw [if_neg h1] at hGG
    by_cases h2 : 549755813888 ≤ virt
    · rw [if_pos h2] at hGG
      exact ⟨40, ⟨fun _ => hGG, (fun h => absurd h (by decide)), fun h => absurd h (by decide)⟩, .inr ⟨⟨fun h => h1 (.inl h), fun h => h1 (.inr h)⟩, .inl ⟨by omega, rfl⟩⟩⟩
    rw [if_neg h2] at hGG
    by_cases h3 : root % 4096 ≠ 0
    · rw [if_pos h3] at hGG
      exact ⟨42, ⟨fun _ => hGG, (fun h => absurd h (by decide)), fun h => absurd h (by decide)⟩, .inr ⟨⟨fun h => h1 (.inl h), fun h => h1 (.inr h)⟩, .inr ⟨by omega, .inl ⟨by omega, rfl⟩⟩⟩⟩
    · rw [if_neg h3] at hGG
      exact ⟨0, ⟨fun h => absurd rfl h, fun _ _ => ⟨by decide, by omega, hGG⟩, fun _ h => absurd h (by decide)⟩, .inr ⟨⟨fun h => h1 (.inl h), fun h => h1 (.inr h)⟩, .inr ⟨by omega, .inr ⟨by omega, rfl⟩⟩⟩⟩
  obtain ⟨no, hTG, H0⟩ := H0
  have HTG := Lib.hid hTG
  clear hTG HG
  go_enter Tryz.func22, Tryz.ntmps22
  go_upto_region 1 with fail
  have hr9 := Row.new w 33 [.int .i64 0, .int .u64 0]
  have hm1 := HM.out.below (w' := w.alloc (.cells #[.int .i64 0, .int .u64 0] 33)) ((Below.refl _ _).alloc (Nat.le_refl _) _)
  have hc1 : ChgP Z w (w.alloc (.cells #[.int .i64 0, .int .u64 0] 33)) := (ChgP.refl _ w).alloc _
  have hs1 : (w.alloc (.cells #[.int .i64 0, .int .u64 0] 33)).heap.size = w.heap.size + 1 := by simp
  generalize w.alloc (.cells #[.int .i64 0, .int .u64 0] 33) = w1 at *
  have H1 := Lib.hid (And.intro hr9 (And.intro hm1 (And.intro hc1 hs1)))
  clear hr9 hm1 hc1 hs1
  have HN := Lib.hid H0
  clear H0
  go_upto_block 0 with fail
  go_cut [10] (fun x wx => x = .int .i64 (no : Nat) ∧ w1 = wx)
  case first =>
    rcases HN.out with ⟨h1 | h1, rfl⟩ | ⟨⟨h1, h2⟩, ⟨h3, rfl⟩ | ⟨h3, ⟨h4, rfl⟩ | ⟨h4, rfl⟩⟩⟩
    · go_wp2_with fail
      go_meet
      case rel => exact ⟨rfl, rfl⟩
    · have h2 : ¬ access < 1 := by omega
      go_wp2_with fail
      go_meet
      case rel => exact ⟨rfl, rfl⟩
    all_goals
      go_wp2_with fail
      go_meet
      case rel => exact ⟨rfl, rfl⟩
  case rest =>
  obtain ⟨rfl, rfl⟩ := hcut
  go_upto_region 9 with fail
  have HT0 : Hid (TS Z B g M w root true false false false (w1.alloc (.cells #[.int .u64 (root : Nat), .bool true, .bool false, .bool false, .bool false] 97))) := Lib.hid (by
    obtain ⟨a1, a2, a3, a4⟩ := H1.out
    have hb : Below w1.heap.size w1 (w1.alloc (.cells #[.int .u64 (root : Nat), .bool true, .bool false, .bool false, .bool false] 97)) := (Below.refl _ _).alloc (Nat.le_refl _) _
    have hn := Row.new w1 97 [.int .u64 (root : Nat), .bool true, .bool false, .bool false, .bool false]
    rw [a4] at hn
    exact ⟨a2.below hb, a3.alloc _, a1.below hb a1.lt, hn⟩)
  have hs1 : w1.heap.size = w.heap.size + 1 := H1.out.2.2.2
  generalize w1.alloc (.cells #[.int .u64 (root : Nat), .bool true, .bool false, .bool false, .bool false] 97) = w2 at *
  rw [hs1]
  have hno : no ≤ 44 := by rcases HN.out with ⟨_, h⟩ | ⟨_, ⟨_, h⟩ | ⟨_, ⟨_, h⟩ | ⟨_, h⟩⟩⟩ <;> omega
  clear hs1 H1 HN HM
  have HBL : Hid (B ≤ w.heap.size) := Lib.hid (by
    obtain ⟨_, _, _, _, _, _, _, _, _, _, hd⟩ := HT0.out.dm
    have h1 := HZ.out g hd.zg
    exact Nat.le_trans hd.m.gB (Nat.le_of_lt h1))
  go_wp2_with fail
  go_loopw [10, 12] (fun x y wr => ∃ (l n F : Nat) (t b v e : Bool), l ≤ 3 ∧ x = .int .i64 (n : Nat) ∧ y = .int .i64 (l : Nat) ∧ Hid (TG M virt access G l F n t b v e) ∧ Hid (TS Z B g M w F t b v e wr) ∧ n ≤ 44) (fun _ y _ => 3 - (intOf y).toNat)
  case atStart => exact ⟨0, no, root, true, false, false, false, by omega, rfl, rfl, HTG, HT0, hno⟩
  case round =>
  clear HTG HT0 hno
  obtain ⟨l, n, F, t, b, v, e, hl, rfl, rfl, HTG, HT, hn44⟩ := hrel
  have x0 := HT.out.r11.cell 0
  have x1 := HT.out.r11.cell 1
  have x2 := HT.out.r11.cell 2
  have x3 := HT.out.r11.cell 3
  have x4 := HT.out.r11.cell 4
  have xl := HT.out.r11.lt
  have y0 := HT.out.r9.frozen 0
  have y1 := HT.out.r9.frozen 1
  have yl := HT.out.r9.lt
  have y2 := HT.out.r9.cell 0
  have y3 := HT.out.r9.cell 1
  simp only [List.getElem?_cons_zero, List.getElem?_cons_succ] at x0 x1 x2 x3 x4 y2 y3
  by_cases hn0 : n = 0
  · subst hn0
    cases t with
    | true =>
      obtain ⟨hl3, hFb, _⟩ := HTG.out.2.1 rfl rfl
      obtain ⟨ix, hix⟩ : ∃ ix, ix = ixv virt l := ⟨_, rfl⟩
      have hix5 : ix < 512 := by rw [hix]; exact Nat.mod_lt _ (by decide)
      have HIX : Hid (∀ wx, Calls Tryz.prog 40 #[.int .u64 (virt : Nat), .int .i64 (l : Nat)] wx fun e w' => e = .returned (.int .u64 (ix : Nat)) ∧ wx = w') := Lib.hid (fun wx => by rw [hix]; exact rindex_any virt l wx hv hl3)
      obtain ⟨a, ha⟩ : ∃ a, a = F + 8 * ix := ⟨_, rfl⟩
      have ew1 : IntKind.u64.wrap (8 * (ix : Int)) = 8 * (ix : Int) := by rw [IntKind.wrap_u64]; omega
      have ew2 : (F : Int) + 8 * (ix : Int) = (a : Int) := by omega
      have ew3 : IntKind.u64.wrap (a : Int) = (a : Int) := by rw [IntKind.wrap_u64]; omega
      obtain ⟨E, hE⟩ : ∃ E, E = (rdM M a).getD 0 := ⟨_, rfl⟩
      obtain ⟨on_, hon⟩ : ∃ o, o = onE M a := ⟨_, rfl⟩
      have hE64 : E < 18446744073709551616 := by
        rw [hE]
        cases h : rdM M a with
        | none => decide
        | some e => exact (rdM_off.2 e h).2 ▸ numB_lt HBY.out _ 8
      have HPK : Hid (∀ wx, TS Z B g M w F true b v e wx → Calls Tryz.prog 39 #[.pointer (some ⟨g, 0, none⟩), .int .u64 (a : Nat)] wx fun r w' => r = .returned (.tuple #[.int .u64 (E : Nat), .bool on_]) ∧ TS Z B g M w F true b v e w') := Lib.hid (fun wx ht => by
        rw [hE, hon]
        exact (rpeek4_any ht.dm a (by omega)).mono (fun r w' ⟨h1, h2, h3⟩ => ⟨h1, ht.chg h2 h3 HZ.out⟩))
      have hY : entM M F ix l = if on_ = true then Ent.say E l else (Ent.zero, 42) := by
        unfold entM
        rw [← ha, hon, hE]
        unfold onE
        cases h : rdM M a <;> rfl
      have HST := Lib.hid (HTG.out.step)
      rw [← hix, hY] at HST
      clear hix ha hE hon hY x2 x3 x4 y2 y3 HTG
      go_wp2_with fail
      go_region_held3 (fun w' => w'.cell? ⟨w.heap.size + 1, 0, none⟩ = some (.int .u64 (F : Nat)) ∧ Hid (TS Z B g M w F true b v e w'))
        (first | exact ⟨HT.out.drew.r11.cell 0, Lib.hid HT.out.drew⟩ | exact ⟨HT2.out.r11.cell 0, HT2⟩ | fail)
        (first
          | (go_at_call 40; refine (HIX.out _).mono ?_; rintro r w' ⟨rfl, hw⟩; obtain rfl := hw)
          | (go_at_call 39; refine (HPK.out _ HT.out.drew).mono ?_; rintro r w2 ⟨rfl, ht2⟩; have HT2 := Lib.hid ht2; clear ht2)
          | fail)
      cases on_ with
      | false =>
        have HST2 : Hid (TG M virt access G (l + 1) F 42 true b v e) := Lib.hid (by
          have h := HST.out
          rw [if_neg (by decide)] at h
          exact ⟨h.1, (fun h => absurd h (by decide)), fun h => absurd h (by decide)⟩)
        go_wp2_with fail
        go_roundw
        case rel => exact ⟨l + 1, 42, F, true, b, v, e, by omega, rfl, by go_num, HST2, HT2, by omega⟩
        case measure => simp [intOf]; omega
      | true =>
        rw [if_pos rfl] at HST
        have HRE := Lib.hid (fun wx => rentry_any E l wx hE64 hl3)
        obtain ⟨y, hy⟩ : ∃ y, y = Ent.say E l := ⟨_, rfl⟩
        rw [← hy] at HRE HST
        have hyn : y.2 ≤ 44 := by rw [hy]; have := say_nos E l; omega
        obtain ⟨⟨yF, yt, yb, yw, yx⟩, no2⟩ := y
        unfold eVal at HRE
        simp only at HRE HST hyn
        clear hy x0 x1 y0 y1
        go_wp2_with fail
        refine (HRE.out _).mono ?_
        rintro r w3 ⟨rfl, hb3⟩
        have HT3 := Lib.hid (HT2.out.below hb3)
        have z0 := HT3.out.r11.frozen 0
        have z1 := HT3.out.r11.frozen 1
        have z2 := HT3.out.r11.frozen 2
        have z3 := HT3.out.r11.frozen 3
        have z4 := HT3.out.r11.frozen 4
        have x0 := HT3.out.r11.cell 0
        have x1 := HT3.out.r11.cell 1
        have x2 := HT3.out.r11.cell 2
        have x3 := HT3.out.r11.cell 3
        have x4 := HT3.out.r11.cell 4
        simp only [List.getElem?_cons_zero, List.getElem?_cons_succ] at x0 x1 x2 x3 x4
        have zl := HT3.out.r11.lt
        have HT4 := Lib.hid (HT3.out.put HZ.out HBL.out yF yt yb yw yx)
        clear hb3 xl yl
        go_wp2_with fail
        go_roundw
        case rel => exact ⟨l + 1, no2, yF, yt, yb, yw, yx, by omega, rfl, by go_num, HST, HT4, hyn⟩
        case measure => simp [intOf]; omega
    | false =>
      obtain ⟨hF, hG⟩ := HTG.out.2.2 rfl rfl
      clear HTG
      have HG := Lib.hid hG
      by_cases h2 : access = 2 ∧ v = false
      · obtain ⟨rfl, rfl⟩ := h2
        have hg : G = (0, 43) := by rw [HG.out, if_pos ⟨rfl, rfl⟩]
        subst hg
        clear hG
        go_wp2_with fail
        generalize hW : (wr.setCell ⟨w.heap.size, 0, none⟩ (.int .i64 43)).setCell ⟨w.heap.size, 1, none⟩ (.int .u64 (virt : Nat)) = W
        obtain ⟨q1, q2, q3⟩ := HT.out.fin HZ.out HBL.out 43 virt hW.symm
        exact bodyPost_ret (v := .tuple #[.int .u64 0, .agg #[.int .i64 43, .int .u64 (virt : Nat)]]) (by simp [results, Tryz.results22, go_sem, q2, q3]) rfl ⟨rfl, q1⟩
      · have g2 : access = 2 → v = true := fun h => by cases v with | true => rfl | false => exact absurd ⟨h, rfl⟩ h2
        by_cases h3 : access = 3 ∧ e = false
        · obtain ⟨rfl, rfl⟩ := h3
          have hg : G = (0, 44) := by rw [HG.out, if_neg h2, if_pos ⟨rfl, rfl⟩]
          subst hg
          clear hG h2 g2
          go_wp2_with fail
          generalize hW : (wr.setCell ⟨w.heap.size, 0, none⟩ (.int .i64 44)).setCell ⟨w.heap.size, 1, none⟩ (.int .u64 (virt : Nat)) = W
          obtain ⟨q1, q2, q3⟩ := HT.out.fin HZ.out HBL.out 44 virt hW.symm
          exact bodyPost_ret (v := .tuple #[.int .u64 0, .agg #[.int .i64 44, .int .u64 (virt : Nat)]]) (by simp [results, Tryz.results22, go_sem, q2, q3]) rfl ⟨rfl, q1⟩
        · have g3 : access = 3 → e = true := fun h => by cases e with | true => rfl | false => exact absurd ⟨h, rfl⟩ h3
          obtain ⟨P, hP⟩ : ∃ P, P = F + virt % (if b = true then 2097152 else 4096) := ⟨_, rfl⟩
          have hg : G = (P, 0) := by rw [HG.out, if_neg h2, if_neg h3, hP]
          subst hg
          have hPB : P < 8589934592 := by rw [hP]; split <;> omega
          have k3 : IntKind.u64.wrap (P : Int) = (P : Int) := by rw [IntKind.wrap_u64]; omega
          have hq : (access = 2 ∧ v = true) ∨ (access = 3 ∧ e = true) ∨ (¬ access = 2 ∧ ¬ access = 3) := by
            by_cases q2 : access = 2
            · exact .inl ⟨q2, g2 q2⟩
            · by_cases q3 : access = 3
              · exact .inr (.inl ⟨q3, g3 q3⟩)
              · exact .inr (.inr ⟨q2, q3⟩)
          clear h2 h3 g2 g3 hG HG
          cases b with
          | true =>
            have k2 : (F : Int) + (virt : Int) % 2097152 = (P : Int) := by rw [hP, if_pos rfl]; omega
            clear hP
            rcases hq with ⟨rfl, rfl⟩ | ⟨rfl, rfl⟩ | ⟨q2, q3⟩
            all_goals
              go_wp2_with fail
              generalize hW : (wr.setCell ⟨w.heap.size, 0, none⟩ (.int .i64 0)).setCell ⟨w.heap.size, 1, none⟩ (.int .u64 0) = W
              obtain ⟨q1, q2, q3⟩ := HT.out.fin HZ.out HBL.out 0 0 hW.symm
              exact bodyPost_ret (v := .tuple #[.int .u64 (P : Nat), .agg #[.int .i64 0, .int .u64 0]]) (by simp [results, Tryz.results22, go_sem, q2, q3]) rfl ⟨rfl, q1⟩
          | false =>
            have k2 : (F : Int) + (virt : Int) % 4096 = (P : Int) := by rw [hP, if_neg (by decide)]; omega
            clear hP
            rcases hq with ⟨rfl, rfl⟩ | ⟨rfl, rfl⟩ | ⟨q2, q3⟩
            all_goals
              go_wp2_with fail
              generalize hW : (wr.setCell ⟨w.heap.size, 0, none⟩ (.int .i64 0)).setCell ⟨w.heap.size, 1, none⟩ (.int .u64 0) = W
              obtain ⟨q1, q2, q3⟩ := HT.out.fin HZ.out HBL.out 0 0 hW.symm
              exact bodyPost_ret (v := .tuple #[.int .u64 (P : Nat), .agg #[.int .i64 0, .int .u64 0]]) (by simp [results, Tryz.results22, go_sem, q2, q3]) rfl ⟨rfl, q1⟩
  · have hg : G = (0, n) := HTG.out.1 hn0
    subst hg
    have g1 : ((n : Int) == 0) = false := by simp; omega
    have g2 : ((n : Int) != 0) = true := by simp; omega
    clear HTG
    go_wp2_with fail
    generalize hW : (wr.setCell ⟨w.heap.size, 0, none⟩ (.int .i64 (n : Nat))).setCell ⟨w.heap.size, 1, none⟩ (.int .u64 (virt : Nat)) = W
    obtain ⟨q1, q2, q3⟩ := HT.out.fin HZ.out HBL.out n virt hW.symm
    exact bodyPost_ret (v := .tuple #[.int .u64 0, .agg #[.int .i64 (n : Nat), .int .u64 (virt : Nat)]]) (by simp [results, Tryz.results22, go_sem, q2, q3]) rfl ⟨by simp only [if_neg hn0], q1⟩
end Bu
end Go.Proofs.YtfpofaniicegaaaGreat
