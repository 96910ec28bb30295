/- Texts of this claim, one behind the other: PgD, PgF, PgG, PagesN, PgS, PgT. -/
import Derived.Test.YtblfagmoilhdnaaJPagesBuilds2
import Derived.Test.YtblfagmoilhdnaaJPagesBuilds1
import Derived.RegionTactic
import Derived.Deep.Cut
import Derived.Deep.DeepCutAuto
/- The walk of the builder's page. -/
set_option linter.unusedVariables false
set_option linter.unusedSimpArgs false
namespace Go.Proofs.Ytblfagmoilhdnaa
open Go.RowKit

theorem Pg.Pge.Ok.lt {q : Pg.Pge} (h : q.Ok) : q.v < 549755813888 ∧ q.p < 4294967296 := by
  have h1 := h.vl
  have h2 := h.pl
  rcases q.u_or with ⟨h, _⟩ | ⟨h, _⟩ <;> rw [h] at h1 h2 <;> omega
section
variable {w w' : World} {B g base : Nat} {s : Pg.St}
theorem Bd.set2 (h : Bd w B g base s) (m : Nat) : Bd (w.setCell ⟨g, 2, none⟩ (.int .i64 (m : Nat))) B g base { s with mid := m } := by
  obtain ⟨ga, c, hr, ho, ht⟩ := h; exact ⟨ga, c, hr.set_ 2 _, own_set ho hr (by decide) 2 _, ht⟩
theorem Bd.set3 (h : Bd w B g base s) (m : Nat) : Bd (w.setCell ⟨g, 3, none⟩ (.int .i64 (m : Nat))) B g base { s with low := m } := by
  obtain ⟨ga, c, hr, ho, ht⟩ := h; exact ⟨ga, c, hr.set_ 3 _, own_set ho hr (by decide) 3 _, ht⟩
theorem Bd.set4 (h : Bd w B g base s) (m : Nat) : Bd (w.setCell ⟨g, 4, none⟩ (.int .u64 (m : Nat))) B g base { s with virt := m } := by
  obtain ⟨ga, c, hr, ho, ht⟩ := h; exact ⟨ga, c, hr.set_ 4 _, own_set ho hr (by decide) 4 _, ht⟩
theorem Bd.below (h : Bd w B g base s) (hb : Below w.heap.size w w') : Bd w' B g base s := by
  obtain ⟨ga, c, hr, ho, ht⟩ := h; exact ⟨ga, c, hr.below hb hr.lt, owns_below ho hb, ht⟩
theorem Bd.lt (h : Bd w B g base s) : g < w.heap.size := by obtain ⟨ga, c, hr, _⟩ := h; exact hr.lt
theorem far_set1 (h : Bd w B g base s) (i : Nat) (v : Value) : Far w (w.setCell ⟨g, i, none⟩ v) := by
  obtain ⟨ga, c, hr, _⟩ := h
  exact Far.set_ (cur := (bcells base s.mid s.low s.virt s.all.length c (some ⟨ga, 0, none⟩)).toArray) hr (.inl rfl) i v
theorem far_set2 (h : Bd w B g base s) (v lo : Nat) : Far w ((w.setCell ⟨g, 4, none⟩ (.int .u64 (v : Nat))).setCell ⟨g, 3, none⟩ (.int .i64 (lo : Nat))) := (far_set1 h 4 _).trans (far_set1 (h.set4 v) 3 _)
/-- a row of another type is none of the builder's -/
theorem Bd.row_ne (h : Bd w B g base s) {g' : Nat} {t : TypeId} {cs : List Value} (hr : Row w g' t cs) (ht : t ≠ 133) : g ≠ g' := by
  obtain ⟨ga, c, hr', _⟩ := h
  exact Blk.ne_ (cs := (bcells base s.mid s.low s.virt s.all.length c (some ⟨ga, 0, none⟩)).toArray) (cs' := cs.toArray) hr' hr (Ne.symm ht)
theorem openMid_len (base : Nat) (s : Pg.St) (v : Nat) : s.all.length ≤ (Pg.openMid base s v).all.length ∧ (Pg.openMid base s v).all.length ≤ s.all.length + 1 := by
  unfold Pg.openMid; split <;> simp [Pg.childE_len]
theorem openLow_len (base : Nat) (s : Pg.St) (v : Nat) : s.all.length ≤ (Pg.openLow base s v).all.length ∧ (Pg.openLow base s v).all.length ≤ s.all.length + 1 := by
  unfold Pg.openLow; split <;> simp [Pg.childE_len]
theorem openMid_in (base : Nat) (s : Pg.St) (v : Nat) (hm : s.mid < s.all.length) (hl : s.low < s.all.length) : (Pg.openMid base s v).mid < (Pg.openMid base s v).all.length ∧ (Pg.openMid base s v).low < (Pg.openMid base s v).all.length ∧ (Pg.openMid base s v).virt = s.virt := by
  unfold Pg.openMid; split
  · simp [Pg.childE_len]
  · exact ⟨hm, hl, rfl⟩
theorem openLow_in (base : Nat) (s : Pg.St) (v : Nat) (hm : s.mid < s.all.length) (hl : s.low < s.all.length) : (Pg.openLow base s v).low < (Pg.openLow base s v).all.length ∧ (Pg.openLow base s v).mid = s.mid ∧ (Pg.openLow base s v).virt = s.virt := by
  unfold Pg.openLow; split
  · simp [Pg.childE_len]
  · exact ⟨hl, rfl, rfl⟩
/-- what is behind the opening: the builder, and a row that stands by -/
def Opened (w wx : World) (B g base gx : Nat) (cs : List Value) (s : Pg.St) : Prop := Bd wx B g base s ∧ Row wx gx 47 cs ∧ Below B w wx ∧ Far w wx
/-- what is behind the opening: the builder, and a row that stands by -/
def OpenedE (w wx : World) (B g base gx : Nat) (cs : List Value) (s : Pg.St) : Prop := Bd wx B g base s ∧ Row wx gx 100 cs ∧ Below B w wx ∧ Far w wx
/-- a store into a table: what it needs, and what it leaves -/
theorem Bd.store (h : Bd w B g base s) {tof e : Nat} (ht : tof < s.all.length) (he : e < 512) : ∃ g1 c1 old, w.cell? ⟨g, 1, none⟩ = some (.slice (some ⟨g1, 0, none⟩) s.all.length c1) ∧ s.all.length ≤ c1 ∧ c1 ≤ 9223372036854775807 ∧ g1 < w.heap.size ∧
    w.cell? ⟨g1, tof * 512 + e, none⟩ = some (.int .u64 (old : Nat)) ∧ w.frozen? ⟨g1, tof * 512 + e, none⟩ = false ∧ g ≠ g1 ∧ B ≤ g1 ∧ (∃ cur, Blk w g1 24 cur) ∧
    Hid (∀ wm x, Below w.heap.size w wm → x < 18446744073709551616 → Bd (wm.setCell ⟨g1, tof * 512 + e, none⟩ (.int .u64 (x : Nat))) B g base { s with all := Pg.setE s.all tof e x } ∧ Far w (wm.setCell ⟨g1, tof * 512 + e, none⟩ (.int .u64 (x : Nat)))) := by
  obtain ⟨g1, c1, hr, ho, htab⟩ := h
  have hl := htab.len
  have hlt := (ho.lt g1 rfl)
  obtain ⟨_, _, _, _, hcc, hcm⟩ := own_some ho (by omega)
  have hne : g ≠ g1 := fun e => own_blk_ne (cs := (bcells base s.mid s.low s.virt s.all.length c1 (some ⟨g1, 0, none⟩)).toArray) ho hr (by decide) (by rw [e]; rfl)
  have hc := hr.cell 1
  simp only [bcells, List.getElem?_cons_zero, List.getElem?_cons_succ] at hc
  obtain ⟨cur, hblk⟩ := own_blk' ho g1 rfl
  refine ⟨g1, c1, (s.all.getD tof []).getD e 0, hc, hcc, by unfold maxLen at hcm; exact hcm, hlt.2, ?_, ho.frozenAt _, hne, hlt.1, ⟨cur, hblk⟩, Lib.hid fun wm x hb hx => ?_⟩
  · rw [show tof * 512 + e = 512 * tof + e by omega, ho.cellAt (512 * tof + e) (by omega), tcells_at htab ht he]
    rfl
  · have hown5 := owns_below ho hb
    have hst := hown5.stored (512 * tof + e) (u64v x)
    rw [tcells_set htab ht he, show 512 * tof + e = tof * 512 + e by omega] at hst
    refine ⟨⟨g1, c1, ?_, ?_, htab.setE tof e x hx⟩, (Far.below hb).trans (Far.set_ (hblk.below hb hlt.2) (.inr rfl) _ _)⟩
    · show Row _ g _ (bcells base s.mid s.low s.virt (Pg.setE s.all tof e x).length c1 _)
      rw [Pg.setE_len]
      exact (hr.below hb hr.lt).far (p := ⟨g1, tof * 512 + e, none⟩) hne _
    · show World.ownsRow _ B _ 512 (.slice _ (Pg.setE s.all tof e x).length c1) (Pg.setE s.all tof e x).length (tcells (Pg.setE s.all tof e x))
      rw [Pg.setE_len]
      exact hst.1
end
set_option maxRecDepth 100000 in
set_option maxHeartbeats 1000000 in
theorem page_any (B g base : Nat) (s : Pg.St) (r : Pg.Lf) (q : Pg.Pge) (w : World) (hb : Bd w B g base s) (hB : B ≤ g) (hBw : B ≤ w.heap.size) (hq : q.Ok) (hqr : q.b = r.b ∧ q.w = r.w ∧ q.x = r.x) (hn0 : 0 < s.all.length) (hn : s.all.length ≤ 1500) (hmid : s.mid < s.all.length) (hlow : s.low < s.all.length) (hvirt : s.virt < 549755813888) (hbase : base % 4096 = 0) (hbl : base < 4294967296) :
    Calls Try.prog 67 #[.pointer (some ⟨g, 0, none⟩), .int .u64 (q.v : Nat), .int .u64 (q.p : Nat), lfV r] w fun en w' => en = .returned (.tuple #[]) ∧ Bd w' B g base (Pg.step base s q) ∧ Below B w w' ∧ Far w w' := by
  obtain ⟨v, p, qb, qw, qx⟩ := q
  obtain ⟨rv, rp, rn, rb, rw', rx⟩ := r
  obtain ⟨rfl, rfl, rfl⟩ : qb = rb ∧ qw = rw' ∧ qx = rx := hqr
  have hvl : v < 549755813888 := hq.lt.1
  have hpl : p < 4294967296 := hq.lt.2
  unfold lfV
  obtain ⟨ga, c, hrow, hown, htab⟩ := hb
  have HROW := Lib.hid hrow; have HOWN := Lib.hid hown; have HTAB := Lib.hid htab; have HQ := Lib.hid hq
  have c2 := hrow.cell 2
  have c4 := hrow.cell 4
  simp only [bcells, List.getElem?_cons_zero, List.getElem?_cons_succ] at c2 c4
  have hlt := hrow.lt
  clear hrow hown htab hq
  go_enter Try.func67, Try.ntmps67
  go_upto_region 1 with fail
  obtain ⟨T, hT⟩ : ∃ T : Bool, T = decide (s.mid = 0 ∨ v / 1073741824 ≠ s.virt / 1073741824) := ⟨_, rfl⟩
  have key : (s.mid = 0 ∧ T = true) ∨ (s.mid ≠ 0 ∧ (((v : Int) / 1073741824) != ((s.virt : Int) / 1073741824)) = T) := by
    by_cases h : s.mid = 0
    · exact .inl ⟨h, by rw [hT, decide_eq_true (.inl h)]⟩
    · refine .inr ⟨h, ?_⟩
      rw [hT, Bool.eq_iff_iff, bne_iff_ne, decide_eq_true_iff]
      omega
  have HT := Lib.hid hT
  clear hT
  go_cut [23] (fun x wx => x = .bool T ∧ wx = w.alloc (.cells #[.int .u64 (rv : Nat), .int .u64 (rp : Nat), .int .i64 rn, .bool qb, .bool qw, .bool qx] 47))
  case first =>
    rcases key with ⟨k1, rfl⟩ | ⟨k1, k2⟩
    · have k3 : ((s.mid : Int) == 0) = true := by rw [beq_iff_eq]; omega
      go_wp2_with fail
      go_meet
      case rel => exact ⟨rfl, rfl⟩
    · have k3 : ((s.mid : Int) == 0) = false := by rw [beq_eq_false_iff_ne]; omega
      have K1 := Lib.hid k1
      clear k1
      go_wp2_with fail
      go_meet
      case rel => exact ⟨rfl, rfl⟩
  case rest =>
    obtain ⟨rfl, rfl⟩ := hcut
    clear key c2 c4
    have hrow0 := Row.new w 47 [.int .u64 (rv : Nat), .int .u64 (rp : Nat), .int .i64 rn, .bool qb, .bool qw, .bool qx]
    have hfa0 : Far w (w.alloc (.cells #[.int .u64 (rv : Nat), .int .u64 (rp : Nat), .int .i64 rn, .bool qb, .bool qw, .bool qx] 47)) := Far.below ((Below.refl _ _).alloc (Nat.le_refl _) _)
    have hba0 : Below B w (w.alloc (.cells #[.int .u64 (rv : Nat), .int .u64 (rp : Nat), .int .i64 rn, .bool qb, .bool qw, .bool qx] 47)) := (Below.refl B w).alloc hBw _
    have HBD : Hid (Bd (w.alloc (.cells #[.int .u64 (rv : Nat), .int .u64 (rp : Nat), .int .i64 rn, .bool qb, .bool qw, .bool qx] 47)) B g base s) := Lib.hid ⟨ga, c, HROW.out.alloc _, HOWN.out.alloc _, HTAB.out⟩
    obtain ⟨w0, hw0⟩ : ∃ w0, w0 = w.alloc (.cells #[.int .u64 (rv : Nat), .int .u64 (rp : Nat), .int .i64 rn, .bool qb, .bool qw, .bool qx] 47) := ⟨_, rfl⟩
    have hsz0 : w0.heap.size = w.heap.size + 1 := by rw [hw0]; simp
    rw [← hw0] at hrow0 hba0 hfa0 HBD ⊢
    have HW0 := Lib.hid hw0
    have hs0 : w.heap.size < w0.heap.size := by omega
    obtain ⟨gx, hgx⟩ : ∃ gx, gx = w.heap.size := ⟨_, rfl⟩
    rw [← hgx] at hrow0 ⊢
    have HR0 := Lib.hid hrow0
    have HB0 := Lib.hid hba0
    have HFA0 := Lib.hid hfa0
    have HV := Lib.hid (show v / 1073741824 < 512 by omega)
    have hlt0 := HBD.out.lt
    clear hw0 hrow0 hba0 hfa0 HROW HOWN HTAB hlt hgx hsz0
    go_upto_if 23 with fail
    go_cut [] (fun wx => Hid (Opened w wx B g base gx [.int .u64 (rv : Nat), .int .u64 (rp : Nat), .int .i64 rn, .bool qb, .bool qw, .bool qx] (Pg.openMid base s v)))
    case first =>
      cases hTT : T with
      | true =>
        have hop : Pg.openMid base s v = ⟨Pg.childE base s.all 0 (v / 1073741824), s.all.length, 0, s.virt⟩ := by
          unfold Pg.openMid
          rw [if_pos (of_decide_eq_true (by rw [← HT.out, hTT]))]
        have HOP := Lib.hid hop
        have hch := child_any B g base s 0 (v / 1073741824) w0 HBD.out hB (by omega) hn0 HV.out (by omega) hbase hbl
        rw [show ((v / 1073741824 : Nat) : Int) = (v : Int) / 1073741824 by omega] at hch
        have HCH := Lib.hid hch
        clear hop hch
        go_wp2_with fail
        refine HCH.out.mono ?_
        rintro en w2 ⟨rfl, hbd, hbe, hfar⟩
        have HBD2 := Lib.hid hbd
        have HBE := Lib.hid hbe
        have HRX := Lib.hid (hfar gx _ _ (by decide) (by decide) HR0.out)
        have HFA := Lib.hid hfar
        have hxg : gx ≠ g := fun e => HBD2.out.row_ne HRX.out (by decide) e.symm
        clear hfar
        obtain ⟨ga2, c2', hr2, _, _⟩ := hbd
        have d2 := hr2.cell 2
        have d3 := hr2.cell 3
        have f2 := hr2.frozen 2
        have f3 := hr2.frozen 3
        have hl2 := hr2.lt
        simp only [bcells, List.getElem?_cons_zero, List.getElem?_cons_succ] at d2 d3
        clear hr2 hbe
        go_wp2_with fail
        go_meet
        case rel =>
          refine Lib.hid ⟨?_, ?_, ?_, ?_⟩
          · rw [HOP.out]
            exact (HBD2.out.set2 s.all.length).set3 0
          · exact (HRX.out.far (p := ⟨g, 2, none⟩) hxg _).far (p := ⟨g, 3, none⟩) hxg _
          · exact ((HB0.out.trans HBE.out).setCell (p := ⟨g, 2, none⟩) hB _).setCell (p := ⟨g, 3, none⟩) hB _
          · exact ((HFA0.out.trans HFA.out).trans (far_set1 HBD2.out 2 _)).trans (far_set1 (HBD2.out.set2 s.all.length) 3 _)
      | false =>
        have hop : Pg.openMid base s v = s := by
          unfold Pg.openMid
          rw [if_neg (of_decide_eq_false (by rw [← HT.out, hTT]))]
        have HOP := Lib.hid hop
        clear hop
        go_wp2_with fail
        go_meet
        case rel => exact Lib.hid ⟨by rw [HOP.out]; exact HBD.out, HR0.out, HB0.out, HFA0.out⟩
    case rest =>
      clear HB0 HR0 HBD HW0 HT HFA0
      have HOPN := hcut
      clear hcut
      have hmi := openMid_in base s v hmid hlow
      have hln := openMid_len base s v
      obtain ⟨s1, hs1⟩ : ∃ s1, s1 = Pg.openMid base s v := ⟨_, rfl⟩
      rw [← hs1] at HOPN hmi hln
      have HS1 := Lib.hid hs1
      obtain ⟨hm1, hl1, hv1⟩ := hmi
      have hn1 : s1.all.length ≤ 1501 := by omega
      have hv1' : s1.virt < 549755813888 := by rw [hv1]; exact hvirt
      have HMID : Hid (s1.mid < s1.all.length) := Lib.hid hm1
      have HLOW : Hid (s1.low < s1.all.length) := Lib.hid hl1
      clear hs1 hm1 hl1 hv1 hln hvirt hmid hlow hn0 hn
      have r3 := HOPN.out.2.1.cell 3
      have r4 := HOPN.out.2.1.cell 4
      have r5 := HOPN.out.2.1.cell 5
      simp only [List.getElem?_cons_zero, List.getElem?_cons_succ] at r3 r4 r5
      have hgl := HOPN.out.1.lt
      have hxl := HOPN.out.2.1.lt
      cases hqb : qb with
      | true =>
        subst hqb
        have hmk := make_walk ⟨p, false, true, qw, qx⟩ 1 (wc.alloc (.cells #[.int .u64 (p : Nat), .bool false, .bool true, .bool qw, .bool qx] 100)).drew (by show p < _; omega) (by omega)
        rw [Pg.make_big HQ.out rfl] at hmk
        have HMK := Lib.hid hmk
        clear hmk
        have hbl2 : Below wc.heap.size wc (wc.alloc (.cells #[.int .u64 (p : Nat), .bool false, .bool true, .bool qw, .bool qx] 100)) := (Below.refl _ _).alloc (Nat.le_refl _) _
        have hbd := HOPN.out.1.below hbl2
        have hre := Row.new wc 100 [.int .u64 (p : Nat), .bool false, .bool true, .bool qw, .bool qx]
        obtain ⟨gb, hgb⟩ : ∃ gb, gb = wc.heap.size := ⟨_, rfl⟩
        rw [← hgb] at hre
        obtain ⟨wl, hwl⟩ : ∃ wl, wl = wc.alloc (.cells #[.int .u64 (p : Nat), .bool false, .bool true, .bool qw, .bool qx] 100) := ⟨_, rfl⟩
        have HBL : Hid (Below B w wl) := Lib.hid (by rw [hwl]; exact HOPN.out.2.2.1.trans (hbl2.mono (Nat.le_trans hBw HOPN.out.2.2.1.size)))
        have HFL : Hid (Far w wl) := Lib.hid (by rw [hwl]; exact HOPN.out.2.2.2.trans (Far.below hbl2))
        have hre : Row wl gb 100 [.int .u64 (p : Nat), .bool false, .bool true, .bool qw, .bool qx] := by rw [hwl]; exact hre
        rw [← hwl] at hbd HMK
        obtain ⟨g1, c1, old, a1, hcc, hcm, hg1, a2, a3, hne, hB1, ⟨cur, hblk⟩, HST⟩ := hbd.store (tof := s1.mid) (e := v / 2097152 % 512) HMID.out (by omega)
        have hne2 : gb ≠ g1 := Blk.ne_ (cs := ([.int .u64 (p : Nat), .bool false, .bool true, .bool qw, .bool qx] : List Value).toArray) hre hblk (by decide)
        have hne3 := hbd.row_ne hre (by decide)
        have b0 := hre.cell 0
        have b1 := hre.cell 1
        have b2 := hre.cell 2
        have b3 := hre.cell 3
        have b4 := hre.cell 4
        simp only [List.getElem?_cons_zero, List.getElem?_cons_succ] at b0 b1 b2 b3 b4
        have hgbl := hre.lt
        have HBD := Lib.hid hbd
        obtain ⟨ga1, ca1, hr1, _, _⟩ := hbd
        have a4 := hr1.cell 2
        simp only [bcells, List.getElem?_cons_zero, List.getElem?_cons_succ] at a4
        have hgl2 := hr1.lt
        have hm0 : (0 : Int) ≤ (s1.mid : Int) := by omega
        have hmn : (s1.mid : Int) < (s1.all.length : Int) := by have := HMID.out; omega
        have hes : ((v : Int) / 2097152).tmod 512 = ((v / 2097152 % 512 : Nat) : Int) := by rw [Int.tmod_eq_emod_of_nonneg (by omega)]; omega
        have hes2 : ((v : Int) / 2097152) % 512 = ((v / 2097152 % 512 : Nat) : Int) := by omega
        obtain ⟨E, hE⟩ : ∃ E, E = v / 2097152 % 512 := ⟨_, rfl⟩
        have hE0 : (0 : Int) ≤ (E : Int) := by omega
        have hE5 : (E : Int) < 512 := by omega
        rw [← hE] at hes hes2 a2 a3 HST
        have HEE := Lib.hid hE
        have KEEP : Hid (∀ (w' : World) (u : Value), (w'.cell? ⟨g, 1, none⟩ = some (.slice (some ⟨g1, 0, none⟩) s1.all.length c1) ∧ w'.cell? ⟨g, 2, none⟩ = some (.int .i64 (s1.mid : Nat)) ∧ w'.cell? ⟨gb, 0, none⟩ = some (.int .u64 (p : Nat)) ∧ w'.cell? ⟨gb, 1, none⟩ = some (.bool false) ∧ w'.cell? ⟨gb, 2, none⟩ = some (.bool true) ∧ w'.cell? ⟨gb, 3, none⟩ = some (.bool qw) ∧ w'.cell? ⟨gb, 4, none⟩ = some (.bool qx)) →
            ((w'.setCell ⟨g1, s1.mid * 512 + E, none⟩ u).cell? ⟨g, 1, none⟩ = some (.slice (some ⟨g1, 0, none⟩) s1.all.length c1) ∧ (w'.setCell ⟨g1, s1.mid * 512 + E, none⟩ u).cell? ⟨g, 2, none⟩ = some (.int .i64 (s1.mid : Nat)) ∧ (w'.setCell ⟨g1, s1.mid * 512 + E, none⟩ u).cell? ⟨gb, 0, none⟩ = some (.int .u64 (p : Nat)) ∧ (w'.setCell ⟨g1, s1.mid * 512 + E, none⟩ u).cell? ⟨gb, 1, none⟩ = some (.bool false) ∧ (w'.setCell ⟨g1, s1.mid * 512 + E, none⟩ u).cell? ⟨gb, 2, none⟩ = some (.bool true) ∧ (w'.setCell ⟨g1, s1.mid * 512 + E, none⟩ u).cell? ⟨gb, 3, none⟩ = some (.bool qw) ∧ (w'.setCell ⟨g1, s1.mid * 512 + E, none⟩ u).cell? ⟨gb, 4, none⟩ = some (.bool qx))) := Lib.hid (by
          rintro w' u ⟨k1, k2, k3, k4, k5, k6, k7⟩
          refine ⟨(World.cell?_setCell_other _ _ _ _ (by simp [hne])).trans k1, (World.cell?_setCell_other _ _ _ _ (by simp [hne])).trans k2, (World.cell?_setCell_other _ _ _ _ (by simp [hne2])).trans k3, (World.cell?_setCell_other _ _ _ _ (by simp [hne2])).trans k4, (World.cell?_setCell_other _ _ _ _ (by simp [hne2])).trans k5, (World.cell?_setCell_other _ _ _ _ (by simp [hne2])).trans k6, (World.cell?_setCell_other _ _ _ _ (by simp [hne2])).trans k7⟩)
        have HNUM : Hid (Pg.Pge.num ⟨v, p, true, qw, qx⟩ < 18446744073709551616) := Lib.hid (Pg.num_lt HQ.out)
        clear hbl2 hblk hr1 hre hE
        go_upto_region 5 with fail
        rw [← hgb, ← hwl]
        clear hgb hwl r3 r4 r5
        go_cut [] (fun wx => Hid (∃ wm, Below wl.heap.size wl wm ∧ wx = wm.setCell ⟨g1, s1.mid * 512 + E, none⟩ (.int .u64 (Pg.Pge.num ⟨v, p, true, qw, qx⟩ : Nat))))
        case first =>
          go_region_held3 (fun w' => w'.cell? ⟨g, 1, none⟩ = some (.slice (some ⟨g1, 0, none⟩) s1.all.length c1) ∧ w'.cell? ⟨g, 2, none⟩ = some (.int .i64 (s1.mid : Nat)) ∧ w'.cell? ⟨gb, 0, none⟩ = some (.int .u64 (p : Nat)) ∧ w'.cell? ⟨gb, 1, none⟩ = some (.bool false) ∧ w'.cell? ⟨gb, 2, none⟩ = some (.bool true) ∧ w'.cell? ⟨gb, 3, none⟩ = some (.bool qw) ∧ w'.cell? ⟨gb, 4, none⟩ = some (.bool qx))
            (first | exact ⟨a1, a4, b0, b1, b2, b3, b4⟩ | exact DD | exact KEEP.out _ _ (by assumption))
            (first | (go_at_call 86; refine HMK.out.mono ?_; rintro en w' ⟨rfl, hbm⟩; have DD : w'.cell? ⟨g, 1, none⟩ = some (.slice (some ⟨g1, 0, none⟩) s1.all.length c1) ∧ w'.cell? ⟨g, 2, none⟩ = some (.int .i64 (s1.mid : Nat)) ∧ w'.cell? ⟨gb, 0, none⟩ = some (.int .u64 (p : Nat)) ∧ w'.cell? ⟨gb, 1, none⟩ = some (.bool false) ∧ w'.cell? ⟨gb, 2, none⟩ = some (.bool true) ∧ w'.cell? ⟨gb, 3, none⟩ = some (.bool qw) ∧ w'.cell? ⟨gb, 4, none⟩ = some (.bool qx) := ⟨(hbm.cell (p := ⟨g, 1, none⟩) hgl2).trans a1, (hbm.cell (p := ⟨g, 2, none⟩) hgl2).trans a4, (hbm.cell (p := ⟨gb, 0, none⟩) hgbl).trans b0, (hbm.cell (p := ⟨gb, 1, none⟩) hgbl).trans b1, (hbm.cell (p := ⟨gb, 2, none⟩) hgbl).trans b2, (hbm.cell (p := ⟨gb, 3, none⟩) hgbl).trans b3, (hbm.cell (p := ⟨gb, 4, none⟩) hgbl).trans b4⟩; have d1 := (hbm.cell (p := ⟨g1, s1.mid * 512 + E, none⟩) hg1).trans a2; have d2 := (hbm.frozen (p := ⟨g1, s1.mid * 512 + E, none⟩) hg1).trans a3; have hls := hbm.size; have HBM := Lib.hid hbm; clear hbm))
          all_goals
            go_wp2_with fail
            go_meet
            case rel => exact Lib.hid ⟨_, ((Below.refl wl.heap.size wl).drew).trans HBM.out, rfl⟩
        case rest =>
          obtain ⟨wm, hbm, rfl⟩ := hcut.out
          have HBD5 := Lib.hid (HST.out wm _ hbm HNUM.out)
          have hbb : Below B w (wm.setCell ⟨g1, s1.mid * 512 + E, none⟩ (.int .u64 (Pg.Pge.num ⟨v, p, true, qw, qx⟩ : Nat))) := (HBL.out.trans (hbm.mono (Nat.le_trans hBw HBL.out.size))).setCell (p := ⟨g1, s1.mid * 512 + E, none⟩) hB1 _
          have HBB := Lib.hid hbb
          have HFF : Hid (Far w (wm.setCell ⟨g1, s1.mid * 512 + E, none⟩ (.int .u64 (Pg.Pge.num ⟨v, p, true, qw, qx⟩ : Nat)))) := Lib.hid (HFL.out.trans HBD5.out.2)
          clear hbb hbm hcut a1 a2 a3 a4 b0 b1 b2 b3 b4 KEEP HMK
          generalize wm.setCell ⟨g1, s1.mid * 512 + E, none⟩ (.int .u64 (Pg.Pge.num ⟨v, p, true, qw, qx⟩ : Nat)) = w5 at *
          obtain ⟨ga5, ca5, hr5, _, _⟩ := HBD5.out.1
          have d3 := hr5.cell 3
          have d4 := hr5.cell 4
          have f3 := hr5.frozen 3
          have f4 := hr5.frozen 4
          have hl5 := hr5.lt
          simp only [bcells, List.getElem?_cons_zero, List.getElem?_cons_succ] at d3 d4
          clear hr5
          go_wp2_with fail
          refine bodyPost_ret (results_none rfl _ _ _) rfl ?_
          refine ⟨rfl, ?_, (HBB.out.setCell (p := ⟨g, 4, none⟩) hB _).setCell (p := ⟨g, 3, none⟩) hB _, HFF.out.trans (far_set2 HBD5.out.1 v 0)⟩
          have hstep : Pg.step base s ⟨v, p, true, qw, qx⟩ = ⟨Pg.setE s1.all s1.mid (v / 2097152 % 512) (Pg.Pge.num ⟨v, p, true, qw, qx⟩), s1.mid, 0, v⟩ := by
            unfold Pg.step
            rw [HS1.out]
            rfl
          rw [hstep]
          have := (HBD5.out.1.set4 v).set3 0
          rw [HEE.out] at this
          exact this
      | false =>
        subst hqb
        have hbl2 : Below wc.heap.size wc (wc.alloc (.cells #[.int .u64 (p : Nat), .bool false, .bool false, .bool qw, .bool qx] 100)) := (Below.refl _ _).alloc (Nat.le_refl _) _
        have hbd := HOPN.out.1.below hbl2
        have hre := Row.new wc 100 [.int .u64 (p : Nat), .bool false, .bool false, .bool qw, .bool qx]
        obtain ⟨gb, hgb⟩ : ∃ gb, gb = wc.heap.size := ⟨_, rfl⟩
        rw [← hgb] at hre
        obtain ⟨wl, hwl⟩ : ∃ wl, wl = wc.alloc (.cells #[.int .u64 (p : Nat), .bool false, .bool false, .bool qw, .bool qx] 100) := ⟨_, rfl⟩
        have HBL : Hid (Below B w wl) := Lib.hid (by rw [hwl]; exact HOPN.out.2.2.1.trans (hbl2.mono (Nat.le_trans hBw HOPN.out.2.2.1.size)))
        have HFL : Hid (Far w wl) := Lib.hid (by rw [hwl]; exact HOPN.out.2.2.2.trans (Far.below hbl2))
        have hre : Row wl gb 100 [.int .u64 (p : Nat), .bool false, .bool false, .bool qw, .bool qx] := by rw [hwl]; exact hre
        rw [← hwl] at hbd
        have HBD := Lib.hid hbd
        have HRE := Lib.hid hre
        have hszl : w.heap.size ≤ wl.heap.size := HBL.out.size
        have hgl2 := hbd.lt
        obtain ⟨ga1, ca1, hr1, _, _⟩ := hbd
        have a3 := hr1.cell 3
        have a4 := hr1.cell 4
        simp only [bcells, List.getElem?_cons_zero, List.getElem?_cons_succ] at a3 a4
        obtain ⟨T2, hT2⟩ : ∃ T : Bool, T = decide (s1.low = 0 ∨ v / 2097152 ≠ s1.virt / 2097152) := ⟨_, rfl⟩
        have key : (s1.low = 0 ∧ T2 = true) ∨ (s1.low ≠ 0 ∧ (((v : Int) / 2097152) != ((s1.virt : Int) / 2097152)) = T2) := by
          by_cases h : s1.low = 0
          · exact .inl ⟨h, by rw [hT2, decide_eq_true (.inl h)]⟩
          · refine .inr ⟨h, ?_⟩
            rw [hT2, Bool.eq_iff_iff, bne_iff_ne, decide_eq_true_iff]
            omega
        have HT2 := Lib.hid hT2
        clear hT2 hre hbl2 hr1
        go_upto_region 7 with fail
        rw [← hgb, ← hwl]
        have HGB := Lib.hid hgb
        have HWL := Lib.hid hwl
        clear hgb hwl r3 r4 r5
        go_cut [83] (fun x wx => x = .bool T2 ∧ wx = wl)
        case first =>
          rcases key with ⟨k1, rfl⟩ | ⟨k1, k2⟩
          · have k3 : ((s1.low : Int) == 0) = true := by rw [beq_iff_eq]; omega
            go_wp2_with fail
            go_meet
            case rel => exact ⟨rfl, rfl⟩
          · have k3 : ((s1.low : Int) == 0) = false := by rw [beq_eq_false_iff_ne]; omega
            have K1 := Lib.hid k1
            clear k1
            go_wp2_with fail
            go_meet
            case rel => exact ⟨rfl, rfl⟩
        case rest =>
          obtain ⟨rfl, hwx⟩ := hcut
          rw [hwx]
          clear hwx key a3 a4
          obtain ⟨ga1, ca1, hr1, _, _⟩ := HBD.out
          have a2 := hr1.cell 2
          simp only [bcells, List.getElem?_cons_zero, List.getElem?_cons_succ] at a2
          clear hr1
          go_upto_if 83 with fail
          go_cut [] (fun wx => Hid (OpenedE wl wx B g base gb [.int .u64 (p : Nat), .bool false, .bool false, .bool qw, .bool qx] (Pg.openLow base s1 v)))
          case first =>
            cases hTT : T2 with
            | true =>
              have hop : Pg.openLow base s1 v = ⟨Pg.childE base s1.all s1.mid (v / 2097152 % 512), s1.mid, s1.all.length, s1.virt⟩ := by
                unfold Pg.openLow
                rw [if_pos (of_decide_eq_true (by rw [← HT2.out, hTT]))]
              have HOP := Lib.hid hop
              have hes : ((v : Int) / 2097152).tmod 512 = ((v / 2097152 % 512 : Nat) : Int) := by rw [Int.tmod_eq_emod_of_nonneg (by omega)]; omega
              have hes2 : ((v : Int) / 2097152) % 512 = ((v / 2097152 % 512 : Nat) : Int) := by omega
              obtain ⟨E, hE⟩ : ∃ E, E = v / 2097152 % 512 := ⟨_, rfl⟩
              have hE5 : E < 512 := by omega
              rw [← hE] at hes hes2
              have hch := child_any B g base s1 s1.mid E wl HBD.out hB (by omega) HMID.out hE5 (by omega) hbase hbl
              have HCH := Lib.hid hch
              have HEE := Lib.hid hE
              clear hop hch hE
              go_wp2_with fail
              refine HCH.out.mono ?_
              rintro en w2 ⟨rfl, hbd, hbe, hfar⟩
              have HBD2 := Lib.hid hbd
              have HBE := Lib.hid hbe
              have HRX := Lib.hid (hfar gb _ _ (by decide) (by decide) HRE.out)
              have HFA := Lib.hid hfar
              have hxg : gb ≠ g := fun e => HBD2.out.row_ne HRX.out (by decide) e.symm
              clear hfar
              obtain ⟨ga2, c2', hr2, _, _⟩ := hbd
              have d3 := hr2.cell 3
              have f3 := hr2.frozen 3
              have hl2 := hr2.lt
              simp only [bcells, List.getElem?_cons_zero, List.getElem?_cons_succ] at d3
              clear hr2 hbe
              go_wp2_with fail
              go_meet
              case rel =>
                refine Lib.hid ⟨?_, ?_, ?_, HFA.out.trans (far_set1 HBD2.out 3 _)⟩
                · rw [HOP.out, ← HEE.out]
                  exact HBD2.out.set3 s1.all.length
                · exact HRX.out.far (p := ⟨g, 3, none⟩) hxg _
                · exact HBE.out.setCell (p := ⟨g, 3, none⟩) hB _
            | false =>
              have hop : Pg.openLow base s1 v = s1 := by
                unfold Pg.openLow
                rw [if_neg (of_decide_eq_false (by rw [← HT2.out, hTT]))]
              have HOP := Lib.hid hop
              clear hop
              go_wp2_with fail
              go_meet
              case rel => exact Lib.hid ⟨by rw [HOP.out]; exact HBD.out, HRE.out, Below.refl _ _, Far.refl _⟩
          case rest =>
            have HOP2 := hcut
            clear hcut
            have hli := openLow_in base s1 v HMID.out HLOW.out
            obtain ⟨s2, hs2⟩ : ∃ s2, s2 = Pg.openLow base s1 v := ⟨_, rfl⟩
            rw [← hs2] at HOP2 hli
            have HS2 := Lib.hid hs2
            obtain ⟨hl2, hm2, hv2⟩ := hli
            have HLOW2 : Hid (s2.low < s2.all.length) := Lib.hid hl2
            clear hs2 hl2 hm2 hv2 HBD HRE HT2 hgl2 a2
            have hmk := make_walk ⟨p, false, false, qw, qx⟩ 2 wc.drew (by show p < _; omega) (by omega)
            rw [Pg.make_small HQ.out rfl] at hmk
            have HMK := Lib.hid hmk
            clear hmk
            have hbd := HOP2.out.1
            have hre := HOP2.out.2.1
            have HBL2 : Hid (Below B w wc) := Lib.hid (HBL.out.trans HOP2.out.2.2.1)
            have HFL2 : Hid (Far w wc) := Lib.hid (HFL.out.trans HOP2.out.2.2.2)
            obtain ⟨g1, c1, old, a1, hcc, hcm, hg1, a2, a3, hne, hB1, ⟨cur, hblk⟩, HST⟩ := hbd.store (tof := s2.low) (e := v / 4096 % 512) HLOW2.out (by omega)
            have hne2 : gb ≠ g1 := Blk.ne_ (cs := ([.int .u64 (p : Nat), .bool false, .bool false, .bool qw, .bool qx] : List Value).toArray) hre hblk (by decide)
            have hne3 := hbd.row_ne hre (by decide)
            have b0 := hre.cell 0
            have b1 := hre.cell 1
            have b2 := hre.cell 2
            have b3 := hre.cell 3
            have b4 := hre.cell 4
            simp only [List.getElem?_cons_zero, List.getElem?_cons_succ] at b0 b1 b2 b3 b4
            have hgbl := hre.lt
            have HBD := Lib.hid hbd
            obtain ⟨ga1, ca1, hr1, _, _⟩ := hbd
            have a4 := hr1.cell 3
            simp only [bcells, List.getElem?_cons_zero, List.getElem?_cons_succ] at a4
            have hgl2 := hr1.lt
            have hm0 : (0 : Int) ≤ (s2.low : Int) := by omega
            have hmn : (s2.low : Int) < (s2.all.length : Int) := by have := HLOW2.out; omega
            have hes : ((v : Int) / 4096).tmod 512 = ((v / 4096 % 512 : Nat) : Int) := by rw [Int.tmod_eq_emod_of_nonneg (by omega)]; omega
            have hes2 : ((v : Int) / 4096) % 512 = ((v / 4096 % 512 : Nat) : Int) := by omega
            obtain ⟨E, hE⟩ : ∃ E, E = v / 4096 % 512 := ⟨_, rfl⟩
            have hE0 : (0 : Int) ≤ (E : Int) := by omega
            have hE5 : (E : Int) < 512 := by omega
            rw [← hE] at hes hes2 a2 a3 HST
            have HEE := Lib.hid hE
            have KEEP : Hid (∀ (w' : World) (u : Value), (w'.cell? ⟨g, 1, none⟩ = some (.slice (some ⟨g1, 0, none⟩) s2.all.length c1) ∧ w'.cell? ⟨g, 3, none⟩ = some (.int .i64 (s2.low : Nat)) ∧ w'.cell? ⟨gb, 0, none⟩ = some (.int .u64 (p : Nat)) ∧ w'.cell? ⟨gb, 1, none⟩ = some (.bool false) ∧ w'.cell? ⟨gb, 2, none⟩ = some (.bool false) ∧ w'.cell? ⟨gb, 3, none⟩ = some (.bool qw) ∧ w'.cell? ⟨gb, 4, none⟩ = some (.bool qx)) →
                ((w'.setCell ⟨g1, s2.low * 512 + E, none⟩ u).cell? ⟨g, 1, none⟩ = some (.slice (some ⟨g1, 0, none⟩) s2.all.length c1) ∧ (w'.setCell ⟨g1, s2.low * 512 + E, none⟩ u).cell? ⟨g, 3, none⟩ = some (.int .i64 (s2.low : Nat)) ∧ (w'.setCell ⟨g1, s2.low * 512 + E, none⟩ u).cell? ⟨gb, 0, none⟩ = some (.int .u64 (p : Nat)) ∧ (w'.setCell ⟨g1, s2.low * 512 + E, none⟩ u).cell? ⟨gb, 1, none⟩ = some (.bool false) ∧ (w'.setCell ⟨g1, s2.low * 512 + E, none⟩ u).cell? ⟨gb, 2, none⟩ = some (.bool false) ∧ (w'.setCell ⟨g1, s2.low * 512 + E, none⟩ u).cell? ⟨gb, 3, none⟩ = some (.bool qw) ∧ (w'.setCell ⟨g1, s2.low * 512 + E, none⟩ u).cell? ⟨gb, 4, none⟩ = some (.bool qx))) := Lib.hid (by
              rintro w' u ⟨k1, k2, k3, k4, k5, k6, k7⟩
              refine ⟨(World.cell?_setCell_other _ _ _ _ (by simp [hne])).trans k1, (World.cell?_setCell_other _ _ _ _ (by simp [hne])).trans k2, (World.cell?_setCell_other _ _ _ _ (by simp [hne2])).trans k3, (World.cell?_setCell_other _ _ _ _ (by simp [hne2])).trans k4, (World.cell?_setCell_other _ _ _ _ (by simp [hne2])).trans k5, (World.cell?_setCell_other _ _ _ _ (by simp [hne2])).trans k6, (World.cell?_setCell_other _ _ _ _ (by simp [hne2])).trans k7⟩)
            have HNUM : Hid (Pg.Pge.num ⟨v, p, false, qw, qx⟩ < 18446744073709551616) := Lib.hid (Pg.num_lt HQ.out)
            clear hblk hr1 hre hE
            go_upto_region 9 with fail
            go_cut [] (fun wx => Hid (∃ wm, Below wc.heap.size wc wm ∧ wx = wm.setCell ⟨g1, s2.low * 512 + E, none⟩ (.int .u64 (Pg.Pge.num ⟨v, p, false, qw, qx⟩ : Nat))))
            case first =>
              go_region_held3 (fun w' => w'.cell? ⟨g, 1, none⟩ = some (.slice (some ⟨g1, 0, none⟩) s2.all.length c1) ∧ w'.cell? ⟨g, 3, none⟩ = some (.int .i64 (s2.low : Nat)) ∧ w'.cell? ⟨gb, 0, none⟩ = some (.int .u64 (p : Nat)) ∧ w'.cell? ⟨gb, 1, none⟩ = some (.bool false) ∧ w'.cell? ⟨gb, 2, none⟩ = some (.bool false) ∧ w'.cell? ⟨gb, 3, none⟩ = some (.bool qw) ∧ w'.cell? ⟨gb, 4, none⟩ = some (.bool qx))
                (first | exact ⟨a1, a4, b0, b1, b2, b3, b4⟩ | exact DD | exact KEEP.out _ _ (by assumption))
                (first | (go_at_call 86; refine HMK.out.mono ?_; rintro en w' ⟨rfl, hbm⟩; have DD : w'.cell? ⟨g, 1, none⟩ = some (.slice (some ⟨g1, 0, none⟩) s2.all.length c1) ∧ w'.cell? ⟨g, 3, none⟩ = some (.int .i64 (s2.low : Nat)) ∧ w'.cell? ⟨gb, 0, none⟩ = some (.int .u64 (p : Nat)) ∧ w'.cell? ⟨gb, 1, none⟩ = some (.bool false) ∧ w'.cell? ⟨gb, 2, none⟩ = some (.bool false) ∧ w'.cell? ⟨gb, 3, none⟩ = some (.bool qw) ∧ w'.cell? ⟨gb, 4, none⟩ = some (.bool qx) := ⟨(hbm.cell (p := ⟨g, 1, none⟩) hgl2).trans a1, (hbm.cell (p := ⟨g, 3, none⟩) hgl2).trans a4, (hbm.cell (p := ⟨gb, 0, none⟩) hgbl).trans b0, (hbm.cell (p := ⟨gb, 1, none⟩) hgbl).trans b1, (hbm.cell (p := ⟨gb, 2, none⟩) hgbl).trans b2, (hbm.cell (p := ⟨gb, 3, none⟩) hgbl).trans b3, (hbm.cell (p := ⟨gb, 4, none⟩) hgbl).trans b4⟩; have d1 := (hbm.cell (p := ⟨g1, s2.low * 512 + E, none⟩) hg1).trans a2; have d2 := (hbm.frozen (p := ⟨g1, s2.low * 512 + E, none⟩) hg1).trans a3; have hls := hbm.size; have HBM := Lib.hid hbm; clear hbm))
              all_goals
                go_wp2_with fail
                go_meet
                case rel => exact Lib.hid ⟨_, ((Below.refl wc.heap.size wc).drew).trans HBM.out, rfl⟩
            case rest =>
              obtain ⟨wm, hbm, rfl⟩ := hcut.out
              have HBD5 := Lib.hid (HST.out wm _ hbm HNUM.out)
              have hbb : Below B w (wm.setCell ⟨g1, s2.low * 512 + E, none⟩ (.int .u64 (Pg.Pge.num ⟨v, p, false, qw, qx⟩ : Nat))) := (HBL2.out.trans (hbm.mono (Nat.le_trans hBw HBL2.out.size))).setCell (p := ⟨g1, s2.low * 512 + E, none⟩) hB1 _
              have HBB := Lib.hid hbb
              have HFF : Hid (Far w (wm.setCell ⟨g1, s2.low * 512 + E, none⟩ (.int .u64 (Pg.Pge.num ⟨v, p, false, qw, qx⟩ : Nat)))) := Lib.hid (HFL2.out.trans HBD5.out.2)
              clear hbb hbm hcut a1 a2 a3 a4 b0 b1 b2 b3 b4 KEEP HMK
              generalize wm.setCell ⟨g1, s2.low * 512 + E, none⟩ (.int .u64 (Pg.Pge.num ⟨v, p, false, qw, qx⟩ : Nat)) = w5 at *
              obtain ⟨ga5, ca5, hr5, _, _⟩ := HBD5.out.1
              have d3 := hr5.cell 3
              have d4 := hr5.cell 4
              have f3 := hr5.frozen 3
              have f4 := hr5.frozen 4
              have hl5 := hr5.lt
              simp only [bcells, List.getElem?_cons_zero, List.getElem?_cons_succ] at d3 d4
              clear hr5
              go_wp2_with fail
              go_end0
              refine ⟨rfl, ?_, HBB.out.setCell (p := ⟨g, 4, none⟩) hB _, HFF.out.trans (far_set1 HBD5.out.1 4 _)⟩
              have hstep : Pg.step base s ⟨v, p, false, qw, qx⟩ = ⟨Pg.setE s2.all s2.low (v / 4096 % 512) (Pg.Pge.num ⟨v, p, false, qw, qx⟩), s2.mid, s2.low, v⟩ := by
                unfold Pg.step
                rw [HS2.out, HS1.out]
                rfl
              rw [hstep]
              have := HBD5.out.1.set4 v
              rw [HEE.out] at this
              exact this
end Go.Proofs.Ytblfagmoilhdnaa

/- The walk of pages.build. -/
set_option linter.unusedVariables false
set_option linter.unusedSimpArgs false
namespace Go.Proofs.Ytblfagmoilhdnaa
open Go.RowKit

namespace Pg
/-- the builder, page after page; none: more tables than there may be -/
def runP (base : Nat) : St → List Pge → Option St
  | s, [] => some s
  | s, q :: r => if 1024 < (step base s q).all.length then none else runP base (step base s q) r
def init : St := ⟨[zero512], 0, 0, 0⟩
/-- the tables, or why not -/
def ans (rows : List Lf) (base : Nat) : List (List Nat) × Nat :=
  if right 0 rows ≠ 0 then ([], right 0 rows) else match runP base init (pagesOf rows) with
    | none => ([], 4)
    | some s => (s.all, 0)
structure Inv (s : St) : Prop where
  n0 : 0 < s.all.length
  n1 : s.all.length ≤ 1024
  mid : s.mid < s.all.length
  low : s.low < s.all.length
  virt : s.virt < 549755813888
theorem inv_init : Inv init := ⟨by decide, by decide, by decide, by decide, by decide⟩
theorem step_len (base : Nat) (s : St) (q : Pge) : s.all.length ≤ (step base s q).all.length ∧ (step base s q).all.length ≤ s.all.length + 2 := by
  have h1 := openMid_len base s q.v
  have h2 := openLow_len base (openMid base s q.v) q.v
  unfold step
  cases q.b
  · simp [setE_len]; omega
  · simp [setE_len]; omega
theorem Inv.step {base : Nat} {s : St} {q : Pge} (h : Inv s) (hq : q.Ok) (hn : (step base s q).all.length ≤ 1024) : Inv (step base s q) := by
  have h1 := openMid_in base s q.v h.mid h.low
  have h2 := openLow_in base (openMid base s q.v) q.v h1.1 h1.2.1
  have h3 := step_len base s q
  have h0 := h.n0
  refine ⟨by omega, hn, ?_, ?_, ?_⟩
  · unfold Pg.step
    cases q.b
    · have := openLow_len base (openMid base s q.v) q.v
      simp [setE_len]; omega
    · simp [setE_len]; omega
  · unfold Pg.step
    cases q.b
    · simp [setE_len]; omega
    · have := h1.1
      simp [setE_len]; omega
  · have := hq.lt
    unfold Pg.step
    cases q.b <;> exact this.1
theorem right_all : ∀ {rows : List Lf} {bh : Nat}, right bh rows = 0 → ∀ r ∈ rows, r.Ok
  | [], _, _, r, h => by cases h
  | r :: rs, bh, h, r', h' => by
    obtain ⟨a, _, c⟩ := right_cons h
    rcases List.mem_cons.1 h' with rfl | h'
    · exact a
    · exact right_all c _ h'
theorem pagesOf_drop {rows : List Lf} {k : Nat} {r : Lf} (h : rows[k]? = some r) : pagesOf (rows.drop k) = r.pages ++ pagesOf (rows.drop (k + 1)) := by
  obtain ⟨hlt, he⟩ := List.getElem?_eq_some_iff.1 h
  rw [List.drop_eq_getElem_cons hlt, he]
  rfl
theorem pages_drop {r : Lf} {j : Nat} (h : j < r.cnt) : r.pages.drop j = r.page j :: r.pages.drop (j + 1) := by
  have hl : j < r.pages.length := by simp [Lf.pages, h]
  rw [List.drop_eq_getElem_cons hl]
  simp [Lf.pages]
theorem pages_len (r : Lf) : r.pages.length = r.cnt := by simp [Lf.pages]
theorem runP_cons (base : Nat) (s : St) (q : Pge) (r : List Pge) : runP base s (q :: r) = if 1024 < (step base s q).all.length then none else runP base (step base s q) r := rfl
end Pg
theorem wpList_made {P : Program} {ops : Array Oper} {rest : List Oper} {o : Oper} {a : Act} {Q : Exit → Act → World → Prop} {w w1 : World} (hgd : Region.wanted o (yielded ops a.tmps) = true) (t : TypeId) (x y : Operand) (ho : o.op = .makeSlice t x y) {X Y v : Value} (hx : a.eval x = X) (hy : a.eval y = Y)
    (hrun : (Instr.makeSlice t X Y).run P w = .ok v w1) (h : wpList P ops Q rest (a.put o.dst v) w1) : wpList P ops Q (o :: rest) a w :=
  wpList_wanted hgd fun _ hK => by
    unfold Oper.wp execOp
    simp only [ho, hx, hy, Sem.run_bind, hrun, Result.andThen_ok]
    exact hK _ _ h
theorem own_nil (w : World) (base : Nat) (e : TypeId) (size : Nat) : w.ownsRow base e size (.slice none 0 0) 0 [] := ⟨by simp, .inl ⟨rfl, rfl⟩⟩
theorem own_fresh (w : World) (e : TypeId) (size n : Nat) (xs : List Value) (h : xs.length = n * size) (hn : n ≤ maxLen) : (w.alloc (.cells xs.toArray e)).ownsRow w.heap.size e size (.slice (some ⟨w.heap.size, 0, none⟩) n n) n xs := by
  refine ⟨h, .inr ⟨w.heap.size, n, xs.toArray, rfl, Nat.le_refl _, ?_, Nat.le_refl _, hn, by simpa using h, ?_⟩⟩
  · exact (Row.new w e xs)
  · simp only [List.toList_toArray]
    rw [← h, List.take_length]
theorem own_mono {w : World} {base base' n size : Nat} {e : TypeId} {v : Value} {xs : List Value} (h : w.ownsRow base e size v n xs) (hb : base' ≤ base) : w.ownsRow base' e size v n xs := by
  refine ⟨h.1, ?_⟩
  rcases h.2 with h | ⟨g, cap, cur, h1, h2, h3⟩
  · exact .inl h
  · exact .inr ⟨g, cap, cur, h1, Nat.le_trans hb h2, h3⟩
/-- what a result is: the list, laid in new memory -/
def IsT (w w' : World) (A : Option Addr) (c : Nat) (l : List (List Nat)) : Prop := w'.ownsRow w.heap.size 24 512 (.slice A l.length c) l.length (tcells l) ∧ Tabs l ∧ Below w.heap.size w w'
theorem tabs_nil : Tabs [] := fun t h => by cases h
theorem IsT.nil {w w' : World} (h : Below w.heap.size w w') : IsT w w' none 0 [] := ⟨own_nil _ _ _ _, tabs_nil, h⟩
def tansV (A : Option Addr) (c : Nat) (a : List (List Nat) × Nat) : Value := .tuple #[.slice A a.1.length c, .int .i64 (a.2 : Nat)]
set_option maxRecDepth 100000 in
set_option maxHeartbeats 1000000 in
theorem build_any (A : Option Addr) (n c base : Nat) (rows : List Pg.Lf) (w : World) (hr : IsL w w.heap.size A n rows) (hbase : base % 4096 = 0) (hbl : base < 4294967296) :
    Calls Try.prog 41 #[.slice A n c, .int .u64 (base : Nat)] w fun e w' => ∃ A' c', e = .returned (tansV A' c' (Pg.ans rows base)) ∧ IsT w w' A' c' (Pg.ans rows base).1 := by
  have HRT := Lib.hid (right_any A n c rows w hr)
  obtain ⟨b, off, HF⟩ := hr.form
  have HL := Lib.hid hr.2.2.1
  have hn := hr.2.2.2
  clear hr
  go_enter Try.func41, Try.ntmps41
  go_wp2_with fail
  refine HRT.out.mono ?_
  rintro e w1 ⟨rfl, hb1⟩
  have HB1 := Lib.hid hb1
  clear hb1
  obtain ⟨R, hR⟩ : ∃ R, R = Pg.right 0 rows := ⟨_, rfl⟩
  rw [← hR]
  by_cases h0 : R = 0
  · have HR0 : Hid (Pg.right 0 rows = 0) := Lib.hid (hR ▸ h0)
    have f0 : ((R : Int) != 0) = false := by rw [bne_eq_false_iff_eq]; omega
    clear h0 hR
    have hbs := tab_made
    have hown0 := own_fresh w1 24 512 1 (zeros 512) (by simp [zeros]) (by unfold maxLen; omega)
    obtain ⟨Z, hZ⟩ : ∃ Z, Z = zeros 512 := ⟨_, rfl⟩
    rw [← hZ] at hbs hown0
    have HBS := Lib.hid hbs
    have HO := Lib.hid hown0
    have HZZ := Lib.hid hZ
    clear hbs hown0 hZ
    go_upto_region 5 with (first | (refine wpList_made (by rfl) 42 _ _ rfl (by rfl) (by rfl) (HBS.out _) ?_))
    have HBD0 : Hid (Bd ((w1.alloc (.cells Z.toArray 24)).alloc (.cells #[.int .u64 (base : Nat), .slice (some ⟨w1.heap.size, 0, none⟩) 1 1, .int .i64 0, .int .i64 0, .int .u64 0] 133)) w1.heap.size (w1.heap.size + 1) base Pg.init) := Lib.hid (by
      have hr := Row.new (w1.alloc (.cells Z.toArray 24)) 133 (bcells base 0 0 0 1 1 (some ⟨w1.heap.size, 0, none⟩))
      have hz : tcells Pg.init.all = Z := by rw [HZZ.out]; rfl
      refine ⟨w1.heap.size, 1, ?_, ?_, ?_⟩
      · rw [show (w1.alloc (.cells Z.toArray 24)).heap.size = w1.heap.size + 1 by simp] at hr
        exact hr
      · rw [hz]
        exact HO.out.alloc _
      · intro t ht
        simp [Pg.init] at ht
        subst ht
        exact ⟨List.length_replicate, fun x hx => by rw [List.eq_of_mem_replicate hx]; decide⟩)
    have HBE0 : Hid (Below w.heap.size w ((w1.alloc (.cells Z.toArray 24)).alloc (.cells #[.int .u64 (base : Nat), .slice (some ⟨w1.heap.size, 0, none⟩) 1 1, .int .i64 0, .int .i64 0, .int .u64 0] 133))) := Lib.hid ((HB1.out.alloc HB1.out.size _).alloc (by have := HB1.out.size; simp; omega) _)
    have HB1S := Lib.hid HB1.out.size
    clear HBS HO HZZ HRT
    have HSZ : Hid (w1.heap.size ≤ ((w1.alloc (.cells Z.toArray 24)).alloc (.cells #[.int .u64 (base : Nat), .slice (some ⟨w1.heap.size, 0, none⟩) 1 1, .int .i64 0, .int .i64 0, .int .u64 0] 133)).heap.size) := Lib.hid (by simp; omega)
    generalize (w1.alloc (.cells Z.toArray 24)).alloc (.cells #[.int .u64 (base : Nat), .slice (some ⟨w1.heap.size, 0, none⟩) 1 1, .int .i64 0, .int .i64 0, .int .u64 0] 133) = w2 at *
    obtain ⟨B, hB⟩ : ∃ B, B = w1.heap.size := ⟨_, rfl⟩
    rw [← hB] at HBD0 HB1S HSZ ⊢
    have HWB : Hid (w.heap.size ≤ B) := HB1S
    have hsz := HSZ.out
    obtain ⟨g, hg⟩ : ∃ g, g = B + 1 := ⟨_, rfl⟩
    rw [← hg] at HBD0 ⊢
    have hBg : B ≤ g := by omega
    have HNS : Hid (Below w.heap.size w w2 ∧ B ≤ w2.heap.size) := Lib.hid ⟨HBE0.out, hsz⟩
    clear hB hg HB1 HB1S HSZ HBE0 hsz
    generalize HZ : (Value.agg #[.int .u64 (base : Nat), .slice (some ⟨B, 0, none⟩) 1 1, .int .i64 0, .int .i64 0, .int .u64 0]) = ZV
    clear HZ
    go_wp2_with fail
    go_loopw [22] (fun i wr => ∃ (k : Nat) (s : Pg.St), k ≤ n ∧ i = .int .i64 k ∧ Hid (Bd wr B g base s) ∧ Hid (Pg.Inv s) ∧ Hid (Pg.runP base s (Pg.pagesOf (rows.drop k)) = Pg.runP base Pg.init (Pg.pagesOf rows)) ∧ Hid (Below w.heap.size w wr ∧ B ≤ wr.heap.size)) (fun i _ => n - (intOf i).toNat)
    case atStart => exact ⟨0, Pg.init, by omega, rfl, HBD0, Lib.hid Pg.inv_init, Lib.hid rfl, HNS⟩
    case round =>
      clear HBD0 HNS
      obtain ⟨k, s, hk, rfl, HBD, HI, HRP, HB⟩ := hrel
      by_cases hkn : k < n
      · obtain ⟨hA, hbB, hc⟩ := HF.out (by omega)
        subst hA
        obtain ⟨r, hrk⟩ : ∃ r, rows[k]? = some r := ⟨_, List.getElem?_eq_getElem (by have := HL.out; omega)⟩
        have hok := Pg.right_all HR0.out r (List.mem_of_getElem? hrk)
        have hpd := Pg.pagesOf_drop hrk
        have c0 := (HB.out.1.cell (p := ⟨b, off + k * 6, none⟩) hbB).trans (hc k r hrk 0 _ rfl)
        have c1 := (HB.out.1.cell (p := ⟨b, off + k * 6 + 1, none⟩) hbB).trans (hc k r hrk 1 _ rfl)
        have c2 := (HB.out.1.cell (p := ⟨b, off + k * 6 + 2, none⟩) hbB).trans (hc k r hrk 2 _ rfl)
        have c3 := (HB.out.1.cell (p := ⟨b, off + k * 6 + 3, none⟩) hbB).trans (hc k r hrk 3 _ rfl)
        have c4 := (HB.out.1.cell (p := ⟨b, off + k * 6 + 4, none⟩) hbB).trans (hc k r hrk 4 _ rfl)
        have c5 := (HB.out.1.cell (p := ⟨b, off + k * 6 + 5, none⟩) hbB).trans (hc k r hrk 5 _ rfl)
        have HPD := Lib.hid hpd
        have hu := r.u_or
        have hcu := hok.cnt_u
        have h1 := hok.n1
        have h5 := hok.vl
        have h6 := hok.pl
        obtain ⟨v, p, m, bg, wt, ex⟩ := r
        simp only at h1 h5 h6 hcu
        obtain ⟨nm, rfl⟩ : ∃ nm : Nat, m = nm := ⟨m.toNat, by omega⟩
        simp only [Int.toNat_natCast] at h1 h5 h6 hcu
        obtain ⟨U, hU⟩ : ∃ U, U = Pg.Lf.u ⟨v, p, nm, bg, wt, ex⟩ := ⟨_, rfl⟩
        obtain ⟨C, hC⟩ : ∃ C, C = Pg.Lf.cnt ⟨v, p, nm, bg, wt, ex⟩ := ⟨_, rfl⟩
        rw [← hU] at hu hcu
        rw [← hC] at hcu
        have HU := Lib.hid hU; have HC := Lib.hid hC; have HUU := Lib.hid hu; have HCU := Lib.hid hcu; have HOK := Lib.hid hok
        have hU0 : 0 < U := by rcases hu with h | h <;> omega
        have hU1 : U ≤ 2097152 := by rcases hu with h | h <;> omega
        clear hc hU hC hu hcu hok hpd hrk
        go_wp2_with fail
        obtain ⟨gl, hgl⟩ : ∃ g, g = wr.heap.size := ⟨_, rfl⟩
        have hrow := Row.new wr 47 (lcells ⟨v, p, nm, bg, wt, ex⟩)
        have hba : Below w.heap.size w (wr.alloc (.cells (lcells ⟨v, p, nm, bg, wt, ex⟩).toArray 47)) := HB.out.1.alloc HB.out.1.size _
        have hbd := HBD.out.below ((Below.refl wr.heap.size wr).alloc (Nat.le_refl _) (.cells (lcells ⟨v, p, nm, bg, wt, ex⟩).toArray 47))
        have hbs : B ≤ (wr.alloc (.cells (lcells ⟨v, p, nm, bg, wt, ex⟩).toArray 47)).heap.size := by have := HB.out.2; simp; omega
        unfold lcells at hrow hba hbd hbs
        simp only [] at hrow hba hbd hbs
        rw [← hgl] at hrow ⊢
        have HROW := Lib.hid hrow
        have HBA := Lib.hid (And.intro hba hbs)
        have HBD1 := Lib.hid hbd
        clear hrow hba hbd hbs c0 c1 c2 c3 c4 c5 HF HB HBD hgl
        go_loopw [10] (fun x wi => ∃ (j X : Nat) (s : Pg.St), j ≤ C ∧ X = j * U ∧ x = .int .u64 X ∧ Hid (Bd wi B g base s) ∧ Hid (Pg.Inv s) ∧ Hid (Pg.runP base s ((Pg.Lf.pages ⟨v, p, nm, bg, wt, ex⟩).drop j ++ Pg.pagesOf (rows.drop (k + 1))) = Pg.runP base Pg.init (Pg.pagesOf rows)) ∧ Hid (Row wi gl 47 [.int .u64 (v : Nat), .int .u64 (p : Nat), .int .i64 (nm : Nat), .bool bg, .bool wt, .bool ex]) ∧ Hid (Below w.heap.size w wi ∧ B ≤ wi.heap.size)) (fun x _ => nm * 4096 - (intOf x).toNat)
        case atStart => exact ⟨0, 0, s, by omega, by simp, rfl, HBD1, HI, Lib.hid (by rw [List.drop_zero, ← HPD.out]; exact HRP.out), HROW, HBA⟩
        case round =>
          clear HBD1 HI HRP HPD HROW HBA
          obtain ⟨j, X, s, hj, hX, rfl, HBD, HI, HRP, HROW, HB⟩ := hrel
          have HX := Lib.hid hX
          clear hX
          have d0 := HROW.out.cell 0
          have d1 := HROW.out.cell 1
          have d2 := HROW.out.cell 2
          have d3 := HROW.out.cell 3
          have d4 := HROW.out.cell 4
          have d5 := HROW.out.cell 5
          simp only [List.getElem?_cons_zero, List.getElem?_cons_succ] at d0 d1 d2 d3 d4 d5
          have hgl := HROW.out.lt
          have e1 : IntKind.u64.wrap (nm : Int) = (nm : Int) := by rw [IntKind.wrap_u64]; omega
          have e2 : (nm : Int) * 4096 % 18446744073709551616 = (nm : Int) * 4096 := by omega
          have e2' : IntKind.u64.wrap ((nm : Int) * 4096) = (nm : Int) * 4096 := by rw [IntKind.wrap_u64]; exact e2
          by_cases hjc : j < C
          · have hXU : X + U ≤ nm * 4096 := by
              rw [← HCU.out, HX.out, ← Nat.succ_mul]
              exact Nat.mul_le_mul_right _ hjc
            have hq := HOK.out.page_ok (i := j) (by rw [← HC.out]; exact hjc)
            have hql := hq.lt
            have hqe : Pg.Lf.page ⟨v, p, nm, bg, wt, ex⟩ j = ⟨v + X, p + X, bg, wt, ex⟩ := by
              unfold Pg.Lf.page
              rw [HX.out, HU.out]
            have hpd := Pg.pages_drop (r := ⟨v, p, nm, bg, wt, ex⟩) (j := j) (by rw [← HC.out]; exact hjc)
            rw [hqe] at hq hpd hql
            obtain ⟨V, hV⟩ : ∃ V, V = v + X := ⟨_, rfl⟩
            obtain ⟨P, hP⟩ : ∃ P, P = p + X := ⟨_, rfl⟩
            rw [← hV, ← hP] at hq hpd hql
            have f1 : IntKind.u64.wrap ((v : Int) + (X : Int)) = (V : Int) := by rw [IntKind.wrap_u64]; omega
            have f2 : ((v : Int) + (X : Int)) % 18446744073709551616 = (V : Int) := by omega
            have f3 : IntKind.u64.wrap ((p : Int) + (X : Int)) = (P : Int) := by rw [IntKind.wrap_u64]; omega
            have f4 : ((p : Int) + (X : Int)) % 18446744073709551616 = (P : Int) := by omega
            have f5 : ((v : Int) + (X : Int)) = (V : Int) := by omega
            have f6 : ((p : Int) + (X : Int)) = (P : Int) := by omega
            have HPG := Lib.hid (page_any B g base s ⟨v, p, nm, bg, wt, ex⟩ ⟨V, P, bg, wt, ex⟩ wr HBD.out hBg HB.out.2 hq ⟨rfl, rfl, rfl⟩ HI.out.n0 (by have := HI.out.n1; omega) HI.out.mid HI.out.low HI.out.virt hbase hbl)
            have HPD := Lib.hid hpd
            have HQ := Lib.hid hq
            have HJC := Lib.hid hjc
            clear hV hP hq hql hqe hpd hjc HBD
            go_wp2_with fail
            refine HPG.out.mono ?_
            rintro e w3 ⟨rfl, hbd3, hbe3, hfar3⟩
            have hst := Pg.runP_cons base s ⟨V, P, bg, wt, ex⟩ ((Pg.Lf.pages ⟨v, p, nm, bg, wt, ex⟩).drop (j + 1) ++ Pg.pagesOf (rows.drop (k + 1)))
            have hrp := HRP.out
            rw [HPD.out, List.cons_append, hst] at hrp
            have hinv := fun hl => HI.out.step (base := base) HQ.out hl
            obtain ⟨s1, hs1⟩ : ∃ s1, s1 = Pg.step base s ⟨V, P, bg, wt, ex⟩ := ⟨_, rfl⟩
            rw [← hs1] at hbd3 hrp hinv
            have HRP1 := Lib.hid hrp
            have HINV := Lib.hid hinv
            have HBD3 := Lib.hid hbd3
            have HBE3 : Hid (Below w.heap.size w w3 ∧ B ≤ w3.heap.size) := Lib.hid ⟨HB.out.1.trans (hbe3.mono HWB.out), Nat.le_trans HB.out.2 hbe3.size⟩
            have HROW3 := Lib.hid (hfar3 gl _ _ (by decide) (by decide) HROW.out)
            obtain ⟨ga, cb, hr3, hown3, htab3⟩ := hbd3
            have k1 := hr3.cell 1
            simp only [bcells, List.getElem?_cons_zero, List.getElem?_cons_succ] at k1
            have hlg := hr3.lt
            have k3 := HROW3.out.cell 0
            have k4 := HROW3.out.cell 1
            have k5 := HROW3.out.cell 2
            have k6 := HROW3.out.cell 3
            have k7 := HROW3.out.cell 4
            have k8 := HROW3.out.cell 5
            simp only [List.getElem?_cons_zero, List.getElem?_cons_succ] at k3 k4 k5 k6 k7 k8
            have hlgl := HROW3.out.lt
            clear hs1 hrp hinv hst hbe3 hfar3 hr3 hown3 htab3 HPG HPD HQ HRP HI HB HROW d0 d1 d2 d3 d4 d5 f1 f2 f3 f4 f5 f6 hgl
            by_cases hmany : 1024 < s1.all.length
            · have f7 : decide ((1024 : Int) < (s1.all.length : Int)) = true := decide_eq_true (by omega)
              have HMANY := Lib.hid hmany
              clear hmany
              go_wp2_with fail
              go_ret2
              have ha : Pg.ans rows base = ([], 4) := by
                unfold Pg.ans
                rw [if_neg (by rw [HR0.out]; simp), ← HRP1.out, if_pos HMANY.out]
              rw [ha]
              exact ⟨none, 0, rfl, IsT.nil HBE3.out.1⟩
            · have f7 : decide ((1024 : Int) < (s1.all.length : Int)) = false := decide_eq_false (by omega)
              have HMANY := Lib.hid hmany
              clear hmany
              obtain ⟨X2, hX2⟩ : ∃ X2, X2 = X + U := ⟨_, rfl⟩
              have f8 : IntKind.u64.wrap ((X : Int) + (U : Int)) = (X2 : Int) := by rw [IntKind.wrap_u64]; omega
              have f9 : ((X : Int) + (U : Int)) % 18446744073709551616 = (X2 : Int) := by omega
              have f10 : ((X : Int) + (U : Int)) = (X2 : Int) := by omega
              have HX2 := Lib.hid hX2
              clear hX2
              go_wp2_with fail
              refine (unit_any ⟨v, p, nm, bg, wt, ex⟩ w3).mono ?_
              rintro e w4 ⟨rfl, hb4⟩
              rw [← HU.out]
              have HBD4 := Lib.hid (HBD3.out.below hb4)
              have HROW4 := Lib.hid (HROW3.out.below hb4 hlgl)
              have HBE4 : Hid (Below w.heap.size w w4 ∧ B ≤ w4.heap.size) := Lib.hid ⟨HBE3.out.1.trans (hb4.mono HBE3.out.1.size), Nat.le_trans HBE3.out.2 hb4.size⟩
              clear hb4 HBD3 HROW3 HBE3 k1 k3 k4 k5 k6 k7 k8 hlgl hlg
              go_wp2
              go_roundw
              case rel =>
                refine ⟨j + 1, X2, s1, HJC.out, by rw [HX2.out, HX.out, Nat.succ_mul], rfl, HBD4, Lib.hid (HINV.out (by have := HMANY.out; omega)), Lib.hid ?_, HROW4, HBE4⟩
                have := HRP1.out
                rw [if_neg HMANY.out] at this
                exact this
              case measure => have := HX2.out; simp [intOf]; omega
          · have hXe : X = nm * 4096 := by
              rw [← HCU.out, HX.out, show j = C by omega]
            have f7 : decide ((X : Int) < (nm : Int) * 4096) = false := decide_eq_false (by omega)
            have HJ : Hid (j = C) := Lib.hid (by omega)
            have HRP1 : Hid (Pg.runP base s (Pg.pagesOf (rows.drop (k + 1))) = Pg.runP base Pg.init (Pg.pagesOf rows)) := Lib.hid (by
              have := HRP.out
              rw [HJ.out, HC.out, List.drop_of_length_le (by rw [Pg.pages_len]; exact Nat.le_refl _), List.nil_append] at this
              exact this)
            clear hXe hjc HRP
            go_wp2_with fail
            go_roundw
            case rel => exact ⟨k + 1, s, by omega, by go_num, HBD, HI, HRP1, HB⟩
            case measure => simp [intOf]; omega
      · have HK : Hid (k = n) := Lib.hid (by omega)
        have hrp := HRP.out
        rw [HK.out, List.drop_of_length_le (Nat.le_of_eq HL.out), show Pg.pagesOf [] = [] from rfl] at hrp
        have HRP1 := Lib.hid hrp
        have HBD1 := HBD
        obtain ⟨ga, cb, hr3, hown3, htab3⟩ := HBD1.out
        have k1 := hr3.cell 1
        simp only [bcells, List.getElem?_cons_zero, List.getElem?_cons_succ] at k1
        have hlg := hr3.lt
        have HT := Lib.hid htab3
        have HO := Lib.hid hown3
        clear hr3 hown3 htab3 hrp HRP
        go_wp2_with fail
        go_ret2
        have ha : Pg.ans rows base = (s.all, 0) := by
          unfold Pg.ans
          rw [if_neg (by rw [HR0.out]; simp), ← HRP1.out]
          rfl
        rw [ha]
        refine ⟨some ⟨ga, 0, none⟩, cb, rfl, ?_, HT.out, HB.out.1⟩
        exact own_mono HO.out HWB.out
  · have f0 : ((R : Int) != 0) = true := by rw [bne_iff_ne]; omega
    have HR := Lib.hid hR
    have HNZ := Lib.hid h0
    clear hR h0
    go_wp2_with fail
    go_ret2
    have ha : Pg.ans rows base = ([], R) := by
      unfold Pg.ans
      rw [if_pos (by rw [← HR.out]; exact HNZ.out), HR.out]
    rw [ha]
    exact ⟨none, 0, rfl, IsT.nil HB1.out⟩
end Go.Proofs.Ytblfagmoilhdnaa

/- The walks of pages.Build and pages.Count. -/
set_option linter.unusedVariables false
set_option linter.unusedSimpArgs false
namespace Go.Proofs.Ytblfagmoilhdnaa
open Go.RowKit

namespace Pg
/-- what Build tells -/
def ansB (rows : List Lf) (base : Nat) : List (List Nat) × Nat :=
  let a := ans rows (base / 4096 * 4096 % 4294967296)
  if a.2 ≠ 0 then ([], a.2) else if base % 4096 ≠ 0 then ([], 33)
  else if 4294967296 ≤ base ∨ (4294967296 - base) / 4096 < a.1.length then ([], 34) else a
theorem ans_len (rows : List Lf) (base : Nat) (h : (ans rows base).2 = 0) : 0 < (ans rows base).1.length ∧ (ans rows base).1.length ≤ 1024 := by
  have aux : ∀ (qs : List Pge) (s s' : St), 0 < s.all.length → s.all.length ≤ 1024 → runP base s qs = some s' → 0 < s'.all.length ∧ s'.all.length ≤ 1024 := by
    intro qs
    induction qs with
    | nil => intro s s' h1 h2 h; cases h; exact ⟨h1, h2⟩
    | cons q r ih =>
      intro s s' h1 h2 h
      rw [runP_cons] at h
      split at h
      · cases h
      · have := step_len base s q
        exact ih _ _ (by omega) (by omega) h
  unfold ans at h ⊢
  split
  · rename_i h0; rw [if_pos h0] at h; exact absurd h h0
  · rename_i h0
    rw [if_neg h0] at h
    cases hr : runP base init (pagesOf rows) with
    | none => rw [hr] at h; cases h
    | some s => exact aux _ _ _ (by decide) (by decide) hr
theorem ans_nil (rows : List Lf) (base : Nat) (h : (ans rows base).2 ≠ 0) : (ans rows base).1 = [] := by
  unfold ans at h ⊢
  split
  · rfl
  · rename_i h0
    rw [if_neg h0] at h
    cases hr : runP base init (pagesOf rows) with
    | none => rfl
    | some s => rw [hr] at h; exact absurd rfl h
theorem ans_small (rows : List Lf) (base : Nat) : (ans rows base).2 < 121 := by
  have aux : ∀ (rows : List Lf) (bh : Nat), right bh rows < 121 := by
    intro rows
    induction rows with
    | nil => intro bh; exact Nat.zero_lt_succ _
    | cons r rs ih =>
      intro bh
      unfold right
      repeat' split
      all_goals first | decide | exact ih _
  unfold ans
  split
  · exact aux _ _
  · cases runP base init (pagesOf rows)
    · decide
    · exact Nat.zero_lt_succ _
theorem and_page (a : Nat) (h : a < 18446744073709551616) : a &&& (18446744073709551615 - 4095) = a / 4096 * 4096 := by
  apply Nat.eq_of_testBit_eq
  intro i
  rw [Nat.testBit_and, show (18446744073709551615 - 4095 : Nat) = 2 ^ 12 * (2 ^ 52 - 1) by decide, show a / 4096 * 4096 = 2 ^ 12 * (a / 2 ^ 12) by omega, Nat.testBit_two_pow_mul, Nat.testBit_two_pow_mul, Nat.testBit_two_pow_sub_one, Nat.testBit_div_two_pow]
  by_cases h1 : 12 ≤ i
  · rw [show i - 12 + 12 = i by omega]
    by_cases h2 : i - 12 < 52
    · simp [h1, h2]
    · rw [Nat.testBit_lt_two_pow (x := a) (i := i) (Nat.lt_of_lt_of_le h (by rw [show (18446744073709551616 : Nat) = 2 ^ 64 by decide]; exact Nat.pow_le_pow_right (by omega) (by omega)))]
      simp
  · simp [h1]
end Pg
set_option maxRecDepth 100000 in
theorem count_any (A : Option Addr) (n c : Nat) (rows : List Pg.Lf) (w : World) (hr : IsL w w.heap.size A n rows) :
    Calls Try.prog 19 #[.slice A n c] w fun e w' => e = .returned (.tuple #[.int .i64 ((Pg.ans rows 0).1.length : Nat), .int .i64 ((Pg.ans rows 0).2 : Nat)]) ∧ Below w.heap.size w w' := by
  have HB := Lib.hid (build_any A n c 0 rows w hr (by decide) (by decide))
  clear hr
  obtain ⟨a, ha⟩ : ∃ a, a = Pg.ans rows 0 := ⟨_, rfl⟩
  rw [← ha] at HB ⊢
  obtain ⟨l, f⟩ := a
  clear ha
  go_enter Try.func19, Try.ntmps19
  go_wp2_with fail
  refine HB.out.mono ?_
  rintro e w1 ⟨A', c', rfl, hi⟩
  have HI := Lib.hid hi
  clear hi HB
  unfold tansV
  go_wp2_with fail
  go_ret2
  exact ⟨rfl, HI.out.2.2⟩
set_option maxRecDepth 100000 in
theorem Build_any (A : Option Addr) (n c base : Nat) (rows : List Pg.Lf) (w : World) (hr : IsL w w.heap.size A n rows) (hbl : base < 18446744073709551616) :
    Calls Try.prog 18 #[.slice A n c, .int .u64 (base : Nat)] w fun e w' => ∃ A' c', e = .returned (tansV A' c' (Pg.ansB rows base)) ∧ IsT w w' A' c' (Pg.ansB rows base).1 := by
  obtain ⟨B, hB⟩ : ∃ B, B = base / 4096 * 4096 := ⟨_, rfl⟩
  obtain ⟨B2, hB2⟩ : ∃ B2, B2 = B % 4294967296 := ⟨_, rfl⟩
  have HB := Lib.hid (build_any A n c B2 rows w hr (by omega) (by omega))
  have h1 : bits .andNot .u64 (base : Int) 4095 = (B : Int) := by rw [hB]; rw [← Pg.and_page base hbl]; exact u64_andNot_nat base 4095 hbl (by decide)
  have h2 : (B : Int).tmod 4294967296 = (B2 : Int) := by rw [Int.tmod_eq_emod_of_nonneg (by omega)]; omega
  have h3 : (B : Int) % 4294967296 = (B2 : Int) := by omega
  have h4 : (base : Int) % 4096 = ((base % 4096 : Nat) : Int) := by omega
  obtain ⟨M, hM⟩ : ∃ M, M = base % 4096 := ⟨_, rfl⟩
  rw [← hM] at h4
  have h5 : (base : Int).tmod 4096 = (M : Int) := by rw [Int.tmod_eq_emod_of_nonneg (by omega)]; exact h4
  have HL := Lib.hid (Pg.ans_len rows B2)
  have hans : Pg.ansB rows base = (if (Pg.ans rows B2).2 ≠ 0 then ([], (Pg.ans rows B2).2) else if M ≠ 0 then ([], 33) else if 4294967296 ≤ base ∨ (4294967296 - base) / 4096 < (Pg.ans rows B2).1.length then ([], 34) else (Pg.ans rows B2)) := by
    rw [hM, hB2, hB]; rfl
  obtain ⟨a, ha⟩ : ∃ a, a = Pg.ans rows B2 := ⟨_, rfl⟩
  rw [← ha] at HB HL hans
  obtain ⟨l, f⟩ := a
  simp only at hans
  obtain ⟨res, hres⟩ : ∃ r, r = Pg.ansB rows base := ⟨_, rfl⟩
  rw [← hres] at hans ⊢
  have HRES := Lib.hid hans
  clear ha hans hres hM hB hB2 hr
  go_enter Try.func18, Try.ntmps18
  go_wp2_with fail
  refine HB.out.mono ?_
  rintro e w1 ⟨A', c', rfl, hi⟩
  have HI := Lib.hid hi
  clear hi HB
  unfold tansV
  by_cases hf : f = 0
  · have g1 : ((f : Int) != 0) = false := by rw [bne_eq_false_iff_eq]; omega
    have hl := HL.out hf
    have hl1 := hl.1
    have hl2 := hl.2
    have HF := Lib.hid hf
    clear hf hl
    by_cases hm : M = 0
    · have g2 : ((M : Int) != 0) = false := by rw [bne_eq_false_iff_eq]; omega
      have HM := Lib.hid hm
      clear hm
      by_cases he : 4294967296 ≤ base ∨ (4294967296 - base) / 4096 < l.length
      · have HE := Lib.hid (ends_no base l.length 4294967296 w1 he (by omega) hbl (by omega))
        have HQ := Lib.hid he
        clear he
        go_wp2_with fail
        refine HE.out.mono ?_
        rintro e w2 ⟨rfl, rfl⟩
        go_wp2_with fail
        go_ret2
        rw [HRES.out, if_neg (by simp [HF.out]), if_neg (by simp [HM.out]), if_pos HQ.out]
        exact ⟨none, 0, rfl, IsT.nil HI.out.2.2⟩
      · have HE := Lib.hid (ends_ok base l.length 4294967296 w1 (by omega) (by omega) (by omega))
        have HQ := Lib.hid he
        clear he
        go_wp2_with fail
        refine HE.out.mono ?_
        rintro e w2 ⟨rfl, rfl⟩
        go_wp2_with fail
        go_ret2
        rw [HRES.out, if_neg (by simp [HF.out]), if_neg (by simp [HM.out]), if_neg HQ.out]
        have hff := HF.out
        subst hff
        exact ⟨A', c', rfl, HI.out⟩
    · have g2 : ((M : Int) != 0) = true := by rw [bne_iff_ne]; omega
      have HM := Lib.hid hm
      clear hm
      go_wp2_with fail
      go_ret2
      rw [HRES.out, if_neg (by simp [HF.out]), if_pos HM.out]
      exact ⟨none, 0, rfl, IsT.nil HI.out.2.2⟩
  · have g1 : ((f : Int) != 0) = true := by rw [bne_iff_ne]; omega
    have HF := Lib.hid hf
    clear hf
    go_wp2_with fail
    go_ret2
    rw [HRES.out, if_pos HF.out]
    exact ⟨none, 0, rfl, IsT.nil HI.out.2.2⟩
end Go.Proofs.Ytblfagmoilhdnaa

/- The walk of PagesNames: the tables of no rows, and of one page. -/
set_option linter.unusedVariables false
set_option linter.unusedSimpArgs false
namespace Go.Proofs.Ytblfagmoilhdnaa
open Go.RowKit

def oneRow : Pg.Lf := ⟨12288, 32768, 1, false, true, false⟩
theorem ans_none : Pg.ansB [] 4096 = ([Pg.zero512], 0) := by kernel_rfl
theorem ansB_one : ((Pg.ansB [oneRow] 65536).2, (Pg.ansB [oneRow] 65536).1.length) = (0, 3) := by kernel_rfl
theorem ans_one : ((Pg.ans [oneRow] 0).2, (Pg.ans [oneRow] 0).1.length) = (0, 3) := by kernel_rfl
theorem ansB_cells : (((Pg.ansB [oneRow] 65536).1.getD 0 []).getD 0 0, ((Pg.ansB [oneRow] 65536).1.getD 1 []).getD 0 0, ((Pg.ansB [oneRow] 65536).1.getD 2 []).getD 3 0, ((Pg.ansB [oneRow] 65536).1.getD 2 []).getD 0 0) = (69633, 73729, 32771, 0) := by kernel_rfl
theorem isL_nil (w : World) (B : Nat) : IsL w B none 0 [] := ⟨⟨rfl, fun h => absurd h (by omega)⟩, by simp, rfl, by omega⟩
theorem isL_one (w : World) (r : Pg.Lf) (hr : r.In) : IsL (w.alloc (.cells (lcells r).toArray 47)) (w.alloc (.cells (lcells r).toArray 47)).heap.size (some ⟨w.heap.size, 0, none⟩) 1 [r] := by
  have h := Row.new w 47 (lcells r)
  refine ⟨⟨rfl, fun _ => ⟨_, rfl, h.lt, fun j u hu => ?_⟩⟩, by simpa using hr, rfl, by omega⟩
  rw [Addr.add_mid, Nat.zero_add, h.cell]
  simpa using hu
theorem IsT.form {w w' : World} {A : Option Addr} {c : Nat} {l : List (List Nat)} (h : IsT w w' A c l) (hl : 0 < l.length) : ∃ g, A = some ⟨g, 0, none⟩ ∧ w.heap.size ≤ g ∧ g < w'.heap.size ∧ l.length ≤ c ∧ c ≤ maxLen ∧
    (∀ t e, t < l.length → e < 512 → w'.cell? ⟨g, t * 512 + e, none⟩ = some (.int .u64 ((l.getD t []).getD e 0 : Nat))) := by
  obtain ⟨ho, ht, hb⟩ := h
  obtain ⟨g, rfl, h1, h2, h3, h4⟩ := own_some ho hl
  refine ⟨g, rfl, h1, h2, h3, h4, fun t e h5 h6 => ?_⟩
  rw [show t * 512 + e = 512 * t + e by omega, ho.cellAt (512 * t + e) (by omega), tcells_at ht h5 h6]
  rfl
theorem zeros_get (n i : Nat) (h : i < n) : (zeros n)[i]? = some (.int .u64 0) := by
  unfold zeros
  rw [List.getElem?_replicate, if_pos h]
  rfl
theorem zero512_get (e : Nat) (h : e < 512) : ([Pg.zero512].getD 0 []).getD e 0 = 0 := by
  unfold Pg.zero512
  show (List.replicate 512 0).getD e 0 = 0
  rw [List.getD_eq_getElem?_getD, List.getElem?_replicate]
  split <;> rfl
set_option maxRecDepth 100000 in
set_option maxHeartbeats 1000000 in
theorem pagesnames_walk (w : World) : Calls Try.prog 4 #[] w fun e w' => e = .returned (.bool true) ∧ Below w.heap.size w w' := by
  have hb0 := Build_any none 0 0 4096 [] w (isL_nil _ _) (by decide)
  rw [ans_none] at hb0
  have HB0 := Lib.hid hb0
  clear hb0
  go_enter Try.func4, Try.ntmps4
  go_wp2_with fail
  refine HB0.out.mono ?_
  rintro e w1 ⟨A1, c1, rfl, hi1⟩
  obtain ⟨g1, rfl, hg1, hl1, hc1, hm1, hcell⟩ := hi1.form (by simp)
  unfold tansV maxLen at *
  simp only [List.length_cons, List.length_nil] at hc1 ⊢
  obtain ⟨hz, hsz⟩ := zero_of_info infoTabZ
  have hrg : w1.rangeAt g1 0 (zeros 512) := fun j v hv => by
    have hj := (List.getElem?_eq_some_iff.1 hv).1
    have hj : j < 512 := by rw [show (zeros 512).length = 512 from List.length_replicate] at hj; exact hj
    have := hcell 0 j (by simp) hj
    rw [zeros_get 512 j hj] at hv
    injection hv with hv
    rw [← hv, zero512_get j hj, show 0 * 512 + j = 0 + j from rfl] at *
    exact this
  obtain ⟨V, hV⟩ : ∃ V, V = zeros 512 := ⟨_, rfl⟩
  rw [← hV] at hz hrg
  have HRG := Lib.hid hrg
  have HVL : Hid (V.length = 512) := Lib.hid (by rw [hV]; simp [zeros])
  have HEQ : Hid (∀ w : World, (Op.equalIn 10000 24 (.agg V.toArray) (.agg V.toArray)).run Try.prog w = .ok true w) := Lib.hid fun w => tab_eq_self V (fun i hi => by
    rw [hV]; rw [HVL.out] at hi
    exact ⟨0, zeros_get 512 i hi⟩) HVL.out w
  have heq := HEQ.out
  have B1 := Lib.hid hi1.2.2
  clear hV hrg hcell hi1 HB0
  have hin : oneRow.In := by unfold Pg.Lf.In oneRow; decide
  obtain ⟨a1, ha1⟩ : ∃ a, a = Pg.ansB [oneRow] 65536 := ⟨_, rfl⟩
  obtain ⟨a2, ha2⟩ : ∃ a, a = Pg.ans [oneRow] 0 := ⟨_, rfl⟩
  have q1 := ansB_one
  have q2 := ans_one
  have q3 := ansB_cells
  rw [← ha1] at q1 q3
  rw [← ha2] at q2
  obtain ⟨l1, f1⟩ := a1
  obtain ⟨l2, f2⟩ := a2
  simp only [Prod.mk.injEq] at q1 q2 q3
  obtain ⟨rfl, q1⟩ := q1
  obtain ⟨rfl, q2⟩ := q2
  obtain ⟨r1, r2, r3, r4⟩ := q3
  have HB2 : Hid (∀ w1 : World, Calls Try.prog 18 #[.slice (some ⟨w1.heap.size, 0, none⟩) 1 1, .int .u64 65536] (w1.alloc (.cells #[.int .u64 12288, .int .u64 32768, .int .i64 1, .bool false, .bool true, .bool false] 47)) fun e w' => ∃ A' c', e = .returned (.tuple #[.slice A' 3 c', .int .i64 0]) ∧ IsT (w1.alloc (.cells #[.int .u64 12288, .int .u64 32768, .int .i64 1, .bool false, .bool true, .bool false] 47)) w' A' c' l1) := Lib.hid fun w1 => by
    have h := Build_any (some ⟨w1.heap.size, 0, none⟩) 1 1 65536 [oneRow] _ (isL_one w1 oneRow hin) (by decide)
    rw [← ha1] at h
    unfold tansV at h
    simp only [q1] at h
    exact h
  have HB3 : Hid (∀ w1 : World, Calls Try.prog 19 #[.slice (some ⟨w1.heap.size, 0, none⟩) 1 1] (w1.alloc (.cells #[.int .u64 12288, .int .u64 32768, .int .i64 1, .bool false, .bool true, .bool false] 47)) fun e w' => e = .returned (.tuple #[.int .i64 3, .int .i64 0]) ∧ Below (w1.heap.size + 1) (w1.alloc (.cells #[.int .u64 12288, .int .u64 32768, .int .i64 1, .bool false, .bool true, .bool false] 47)) w') := Lib.hid fun w1 => by
    have h := count_any (some ⟨w1.heap.size, 0, none⟩) 1 1 [oneRow] _ (isL_one w1 oneRow hin)
    rw [← ha2] at h
    simp only [q2] at h
    refine h.mono fun e w' h => ⟨h.1, ?_⟩
    have h2 := h.2
    rw [show (w1.alloc (.cells (lcells oneRow).toArray 47)).heap.size = w1.heap.size + 1 by simp] at h2
    exact h2
  have HL1 := Lib.hid q1
  have HR1 := Lib.hid r1; have HR2 := Lib.hid r2; have HR3 := Lib.hid r3; have HR4 := Lib.hid r4
  clear ha1 ha2 q1 q2 r1 r2 r3 r4 hin
  go_upto_region 5 with (first | (refine wpList_load_midw (by rfl) _ _ rfl _ _ (by rfl) V (.array 512 22) HRG.out Try.underlying24 rfl (by rw [infoTab, HVL.out]) ?_))
  clear heq hz
  go_wp2_with fail
  refine (HB2.out w1).mono ?_
  rintro e w2 ⟨A2, c2, rfl, hi2⟩
  obtain ⟨g2, rfl, hg2, hl2, hc2, hm2, hcell⟩ := hi2.form (by rw [HL1.out]; omega)
  have k1 := hcell 0 0 (by rw [HL1.out]; omega) (by omega)
  have k2 := hcell 1 0 (by rw [HL1.out]; omega) (by omega)
  have k3 := hcell 2 3 (by rw [HL1.out]; omega) (by omega)
  have k4 := hcell 2 0 (by rw [HL1.out]; omega) (by omega)
  rw [HR1.out] at k1; rw [HR2.out] at k2; rw [HR3.out] at k3; rw [HR4.out] at k4
  rw [HL1.out] at hc2
  simp only [Nat.zero_mul, Nat.zero_add, Nat.one_mul] at k1 k2 k3 k4
  have K1 := Lib.hid k1; have K2 := Lib.hid k2; have K3 := Lib.hid k3; have K4 := Lib.hid k4
  have B2 := Lib.hid ((B1.out.alloc B1.out.size _).trans (hi2.2.2.mono (by have := B1.out.size; simp; omega)))
  clear hi2 hcell k1 k2 k3 k4 HB2 B1
  go_wp2_with fail
  refine (HB3.out w2).mono ?_
  rintro e w3 ⟨rfl, hb3⟩
  have hbl : Below w2.heap.size w2 w3 := ((Below.refl _ _).alloc (Nat.le_refl _) _).trans (hb3.mono (by omega))
  have k1 := (hbl.cell (p := ⟨g2, 0, none⟩) hl2).trans K1.out
  have k2 := (hbl.cell (p := ⟨g2, 512, none⟩) hl2).trans K2.out
  have k3 := (hbl.cell (p := ⟨g2, 2 * 512 + 3, none⟩) hl2).trans K3.out
  have k4 := (hbl.cell (p := ⟨g2, 2 * 512, none⟩) hl2).trans K4.out
  have hl3 : g2 < w3.heap.size := Nat.lt_of_lt_of_le hl2 hbl.size
  have B3 := Lib.hid (B2.out.trans (hbl.mono B2.out.size))
  simp only [Nat.reduceMul, Nat.reduceAdd] at k3 k4
  clear hb3 hbl K1 K2 K3 K4 B2 HB3 hl2
  go_wp2_with fail
  go_ret
  exact ⟨rfl, B3.out⟩
end Go.Proofs.Ytblfagmoilhdnaa

/- Plain law: rows joined, and each page a row of its own. -/
set_option linter.unusedVariables false
set_option linter.unusedSimpArgs false
namespace Go.Proofs.Ytblfagmoilhdnaa
namespace Pg
theorem Lf.ext_ {a b : Lf} (h1 : a.v = b.v) (h2 : a.p = b.p) (h3 : a.n = b.n) (h4 : a.b = b.b) (h5 : a.w = b.w) (h6 : a.x = b.x) : a = b := by
  cases a; cases b; simp only at h1 h2 h3 h4 h5 h6; subst h1 h2 h3 h4 h5 h6; rfl
def meets (y x : Lf) : Bool := decide (y.v + y.n.toNat * 4096 = x.v) && decide (y.p + y.n.toNat * 4096 = x.p) && y.b == x.b && y.w == x.w && y.x == x.x
def Lf.with (y : Lf) (n : Int) : Lf := ⟨y.v, y.p, n, y.b, y.w, y.x⟩
def runs1 (out : List Lf) (x : Lf) : List Lf := match out.getLast? with
  | none => [x]
  | some y => if meets y x then out.dropLast ++ [y.with (y.n + x.n)] else out ++ [x]
def joins (rows : List Lf) : List Lf := rows.foldl runs1 []
def runs (rows : List Lf) : List Lf := if right 0 rows ≠ 0 then [] else joins rows
theorem meets_iff {y x : Lf} : meets y x = true ↔ y.v + y.n.toNat * 4096 = x.v ∧ y.p + y.n.toNat * 4096 = x.p ∧ y.b = x.b ∧ y.w = x.w ∧ y.x = x.x := by
  unfold meets
  simp [and_assoc]
theorem runs1_nil (x : Lf) : runs1 [] x = [x] := rfl
theorem runs1_snoc (a : List Lf) (y x : Lf) : runs1 (a ++ [y]) x = if meets y x then a ++ [y.with (y.n + x.n)] else a ++ [y] ++ [x] := by
  unfold runs1
  rw [List.getLast?_concat, List.dropLast_concat]
def endOf : Nat → List Lf → Nat
  | bh, [] => bh
  | _, r :: rs => endOf (r.v + r.n.toNat * 4096) rs
theorem right_append : ∀ {a b : List Lf} {bh : Nat}, right bh (a ++ b) = 0 ↔ right bh a = 0 ∧ right (endOf bh a) b = 0
  | [], b, bh => by simp [right, endOf]
  | r :: a, b, bh => by
    constructor
    · intro h
      obtain ⟨h1, h2, h3⟩ := right_cons h
      obtain ⟨h4, h5⟩ := right_append.1 h3
      exact ⟨right_mk h1 h2 h4, h5⟩
    · rintro ⟨h, h5⟩
      obtain ⟨h1, h2, h3⟩ := right_cons h
      exact right_mk h1 h2 (right_append.2 ⟨h3, h5⟩)
theorem endOf_append : ∀ (a b : List Lf) (bh : Nat), endOf bh (a ++ b) = endOf (endOf bh a) b
  | [], b, bh => rfl
  | r :: a, b, bh => endOf_append a b _
theorem right_one {bh : Nat} {x : Lf} : right bh [x] = 0 ↔ x.Ok ∧ bh ≤ x.v := by
  constructor
  · intro h; obtain ⟨h1, h2, _⟩ := right_cons h; exact ⟨h1, h2⟩
  · rintro ⟨h1, h2⟩; exact right_mk h1 h2 rfl
theorem pagesOf_append (a b : List Lf) : pagesOf (a ++ b) = pagesOf a ++ pagesOf b := List.flatMap_append
theorem pagesOf_one (x : Lf) : pagesOf [x] = x.pages := by simp [pagesOf]
theorem with_u (y : Lf) (n : Int) : (y.with n).u = y.u := rfl
theorem join_ok {y x : Lf} (hy : y.Ok) (hx : x.Ok) (hm : meets y x = true) : (y.with (y.n + x.n)).Ok ∧ (y.n + x.n).toNat = y.n.toNat + x.n.toNat ∧ (y.with (y.n + x.n)).pages = y.pages ++ x.pages := by
  obtain ⟨m1, m2, m3, m4, m5⟩ := meets_iff.1 hm
  have hy1 := hy.n1; have hx1 := hx.n1
  have hn : (y.n + x.n).toNat = y.n.toNat + x.n.toNat := by omega
  have hu : x.u = y.u := by unfold Lf.u; rw [m3]
  have h3 := hy.nu; have h4 := hx.nu
  have h5 := hx.vl; have h6 := hx.pl
  have hcy := hy.cnt_u; have hcx := hx.cnt_u
  rw [hu] at h4 hcx
  have hup : 0 < y.u := by rcases y.u_or with h | h <;> omega
  have hok : (y.with (y.n + x.n)).Ok := by
    refine ⟨by show 1 ≤ y.n + x.n; omega, ?_, hy.va, hy.pa, ?_, ?_⟩
    · show (y.n + x.n).toNat * 4096 % y.u = 0
      rw [hn, Nat.add_mul, Nat.add_mod, h3, h4]; simp
    · show y.v + (y.n + x.n).toNat * 4096 ≤ _
      rw [hn]; omega
    · show y.p + (y.n + x.n).toNat * 4096 ≤ _
      rw [hn]; omega
  refine ⟨hok, hn, ?_⟩
  have hc : (y.with (y.n + x.n)).cnt = y.cnt + x.cnt := by
    have h7 := hok.cnt_u
    rw [with_u] at h7
    have : (y.with (y.n + x.n)).cnt * y.u = (y.cnt + x.cnt) * y.u := by
      rw [h7, Nat.add_mul, hcy, hcx]
      show (y.n + x.n).toNat * 4096 = _
      rw [hn]; omega
    exact Nat.eq_of_mul_eq_mul_right hup this
  unfold Lf.pages
  rw [hc, List.range_add, List.map_append, List.map_map]
  congr 1
  refine List.map_congr_left fun i _ => ?_
  show Pge.mk _ _ _ _ _ = Pge.mk _ _ _ _ _
  have e1 : y.v + (y.cnt + i) * y.u = x.v + i * x.u := by rw [Nat.add_mul, hcy, hu, ← Nat.add_assoc, m1]
  have e2 : y.p + (y.cnt + i) * y.u = x.p + i * x.u := by rw [Nat.add_mul, hcy, hu, ← Nat.add_assoc, m2]
  show Pge.mk (y.v + (y.cnt + i) * y.u) (y.p + (y.cnt + i) * y.u) y.b y.w y.x = Pge.mk (x.v + i * x.u) (x.p + i * x.u) x.b x.w x.x
  rw [e1, e2, m3, m4, m5]
theorem snoc_cases (out : List Lf) : out = [] ∨ ∃ a y, out = a ++ [y] := by
  rcases List.eq_nil_or_concat out with h | ⟨a, y, h⟩
  · exact .inl h
  · exact .inr ⟨a, y, by simpa using h⟩
theorem runs1_right {out : List Lf} {x : Lf} (ho : right 0 out = 0) (hx : x.Ok) (he : endOf 0 out ≤ x.v) : right 0 (runs1 out x) = 0 ∧ endOf 0 (runs1 out x) = x.v + x.n.toNat * 4096 ∧ pagesOf (runs1 out x) = pagesOf out ++ x.pages := by
  rcases snoc_cases out with rfl | ⟨a, y, rfl⟩
  · rw [runs1_nil]
    exact ⟨right_one.2 ⟨hx, by omega⟩, rfl, by rw [pagesOf_one]; rfl⟩
  · rw [runs1_snoc]
    obtain ⟨ha, hy⟩ := right_append.1 ho
    obtain ⟨hyo, hya⟩ := right_one.1 hy
    rw [endOf_append] at he
    split
    · rename_i hm
      obtain ⟨h1, h2, h3⟩ := join_ok hyo hx hm
      obtain ⟨m1, m2, m3, m4, m5⟩ := meets_iff.1 hm
      refine ⟨right_append.2 ⟨ha, right_one.2 ⟨h1, hya⟩⟩, ?_, ?_⟩
      · rw [endOf_append]
        show y.v + (y.n + x.n).toNat * 4096 = _
        rw [h2, Nat.add_mul, ← Nat.add_assoc, m1]
      · rw [pagesOf_append, pagesOf_one, h3, pagesOf_append, pagesOf_one, List.append_assoc]
    · refine ⟨right_append.2 ⟨ho, right_one.2 ⟨hx, by rw [endOf_append]; exact he⟩⟩, ?_, ?_⟩
      · rw [endOf_append]; rfl
      · rw [pagesOf_append, pagesOf_one]
theorem joins_right : ∀ (rows out : List Lf), right 0 out = 0 → right (endOf 0 out) rows = 0 → right 0 (rows.foldl runs1 out) = 0 ∧ endOf 0 (rows.foldl runs1 out) = endOf (endOf 0 out) rows ∧ pagesOf (rows.foldl runs1 out) = pagesOf out ++ pagesOf rows
  | [], out, h, _ => ⟨h, rfl, by simp [pagesOf]⟩
  | r :: rs, out, h, hr => by
    obtain ⟨h1, h2, h3⟩ := right_cons hr
    obtain ⟨k1, k2, k3⟩ := runs1_right h h1 h2
    obtain ⟨j1, j2, j3⟩ := joins_right rs (runs1 out r) k1 (by rw [k2]; exact h3)
    refine ⟨j1, ?_, ?_⟩
    · rw [List.foldl_cons, j2, k2]; rfl
    · rw [List.foldl_cons, j3, k3, List.append_assoc]
      rfl
theorem runs_right {rows : List Lf} (h : right 0 rows = 0) : right 0 (runs rows) = 0 ∧ pagesOf (runs rows) = pagesOf rows := by
  unfold runs
  rw [if_neg (by simp [h])]
  obtain ⟨h1, _, h3⟩ := joins_right rows [] rfl h
  exact ⟨h1, by simpa [pagesOf, joins] using h3⟩
theorem runs_ok {l : List Lf} (h : right 0 l = 0) : runs l = joins l := by unfold runs; rw [if_neg (by simp [h])]
/-- no two neighbours meet -/
def NF (l : List Lf) : Prop := ∀ (i : Nat) (y x : Lf), l[i]? = some y → l[i + 1]? = some x → meets y x = false
theorem nf_runs1 {out : List Lf} {x : Lf} (h : NF out) : NF (runs1 out x) := by
  rcases snoc_cases out with rfl | ⟨a, y, rfl⟩
  · rw [runs1_nil]
    intro i y z _ h2
    simp at h2
  · rw [runs1_snoc]
    split
    · rename_i hm
      intro i c d h1 h2
      have hi : i + 1 < (a ++ [y.with (y.n + x.n)]).length := (List.getElem?_eq_some_iff.1 h2).1
      rw [List.length_append] at hi
      simp at hi
      rw [List.getElem?_append_left (by omega)] at h1
      by_cases hl : i + 1 < a.length
      · rw [List.getElem?_append_left hl] at h2
        exact h i c d (by rw [List.getElem?_append_left (by omega)]; exact h1) (by rw [List.getElem?_append_left hl]; exact h2)
      · have he : i + 1 = a.length := by omega
        rw [he, List.getElem?_append_right (Nat.le_refl _)] at h2
        simp at h2
        subst h2
        have := h i c y (by rw [List.getElem?_append_left (by omega)]; exact h1) (by rw [he, List.getElem?_append_right (Nat.le_refl _)]; simp)
        exact this
    · rename_i hm
      intro i c d h1 h2
      have hi : i + 1 < (a ++ [y] ++ [x]).length := (List.getElem?_eq_some_iff.1 h2).1
      rw [List.length_append] at hi
      simp only [List.length_singleton] at hi
      rw [List.getElem?_append_left (by omega)] at h1
      by_cases hl : i + 1 < (a ++ [y]).length
      · rw [List.getElem?_append_left hl] at h2
        exact h i c d h1 h2
      · have he : i + 1 = (a ++ [y]).length := by omega
        rw [he, List.getElem?_append_right (Nat.le_refl _)] at h2
        simp at h2
        subst h2
        have he2 : i = a.length := by simp at he; omega
        rw [he2, List.getElem?_append_right (Nat.le_refl _)] at h1
        simp at h1
        subst h1
        simpa using hm
theorem nf_joins : ∀ (rows out : List Lf), NF out → NF (rows.foldl runs1 out)
  | [], out, h => h
  | r :: rs, out, h => nf_joins rs _ (nf_runs1 h)
theorem joins_nf : ∀ (rows out : List Lf), NF (out ++ rows) → rows.foldl runs1 out = out ++ rows
  | [], out, h => by simp
  | r :: rs, out, h => by
    have h1 : runs1 out r = out ++ [r] := by
      rcases snoc_cases out with rfl | ⟨a, y, rfl⟩
      · rfl
      · rw [runs1_snoc, if_neg]
        have := h a.length y r (by simp) (by simp)
        simp [this]
    rw [List.foldl_cons, h1, joins_nf rs (out ++ [r]) (by simpa using h)]
    simp
theorem runs_runs {rows : List Lf} (h : right 0 rows = 0) : runs (runs rows) = runs rows := by
  have h1 := (runs_right h).1
  rw [runs_ok h1]
  have hn : NF (runs rows) := by
    rw [runs_ok h]
    exact nf_joins rows [] (by intro i y x h; simp at h)
  exact joins_nf (runs rows) [] (by simpa using hn)
/-- one page as a row -/
def Lf.single (r : Lf) (i : Nat) : Lf := ⟨r.v + i * r.u, r.p + i * r.u, ((r.u / 4096 : Nat) : Int), r.b, r.w, r.x⟩
def Lf.singles (r : Lf) : List Lf := (List.range r.cnt).map r.single
def each (rows : List Lf) : List Lf := rows.flatMap Lf.singles
theorem single_ok {r : Lf} (h : r.Ok) {i : Nat} (hi : i < r.cnt) : (r.single i).Ok := by
  have hq := h.page_ok hi
  have hu := r.u_or
  have hn : (r.single i).n.toNat * 4096 = r.u := by
    show (((r.u / 4096 : Nat) : Int)).toNat * 4096 = r.u
    rcases hu with h | h <;> rw [h] <;> rfl
  refine ⟨?_, ?_, hq.va, hq.pa, ?_, ?_⟩
  · show (1 : Int) ≤ ((r.u / 4096 : Nat) : Int)
    rcases hu with h | h <;> rw [h] <;> decide
  · rw [hn]; exact Nat.mod_self _
  · rw [hn]; exact hq.vl
  · rw [hn]; exact hq.pl
theorem single_n (r : Lf) (i : Nat) : (r.single i).n.toNat * 4096 = r.u := by
  show (((r.u / 4096 : Nat) : Int)).toNat * 4096 = r.u
  rcases r.u_or with h | h <;> rw [h] <;> rfl
theorem single_pages {r : Lf} (i : Nat) : (r.single i).pages = [r.page i] := by
  have hc : (r.single i).cnt = 1 := by
    unfold Lf.cnt
    rw [single_n]
    show r.u / r.u = 1
    exact Nat.div_self (by rcases r.u_or with h | h <;> omega)
  unfold Lf.pages
  rw [hc]
  show [Pge.mk _ _ _ _ _] = [Pge.mk _ _ _ _ _]
  show [Pge.mk (r.v + i * r.u + 0 * r.u) (r.p + i * r.u + 0 * r.u) r.b r.w r.x] = [Pge.mk (r.v + i * r.u) (r.p + i * r.u) r.b r.w r.x]
  rw [Nat.zero_mul, Nat.add_zero, Nat.add_zero]
theorem singles_pages (r : Lf) : pagesOf r.singles = r.pages := by
  have aux : ∀ l : List Nat, pagesOf (l.map r.single) = l.map r.page := by
    intro l
    induction l with
    | nil => rfl
    | cons i l ih =>
      show (r.single i).pages ++ pagesOf (l.map r.single) = r.page i :: l.map r.page
      rw [ih, single_pages]; rfl
  exact aux _
theorem each_pages : ∀ rows : List Lf, pagesOf (each rows) = pagesOf rows
  | [] => rfl
  | r :: rs => by
    show pagesOf (r.singles ++ each rs) = r.pages ++ pagesOf rs
    rw [pagesOf_append, singles_pages, each_pages rs]
theorem singles_right {r : Lf} (h : r.Ok) {bh : Nat} (hb : bh ≤ r.v) : right bh r.singles = 0 ∧ endOf bh r.singles = r.v + r.n.toNat * 4096 := by
  have aux : ∀ k, k ≤ r.cnt → right bh ((List.range k).map r.single) = 0 ∧ endOf bh ((List.range k).map r.single) ≤ r.v + k * r.u ∧ (0 < k → endOf bh ((List.range k).map r.single) = r.v + k * r.u) := by
    intro k
    induction k with
    | zero => intro _; exact ⟨rfl, by simpa [endOf] using hb, fun h => absurd h (by omega)⟩
    | succ k ih =>
      intro hk
      obtain ⟨h1, h2, _⟩ := ih (by omega)
      rw [List.range_succ, List.map_append, endOf_append]
      have he : endOf (endOf bh ((List.range k).map r.single)) ([k].map r.single) = r.v + (k + 1) * r.u := by
        show r.v + k * r.u + (r.single k).n.toNat * 4096 = _
        rw [single_n, Nat.succ_mul]; omega
      refine ⟨right_append.2 ⟨h1, right_one.2 ⟨single_ok h (by omega), h2⟩⟩, by rw [he]; exact Nat.le_refl _, fun _ => he⟩
  obtain ⟨h1, _, h3⟩ := aux r.cnt (Nat.le_refl _)
  refine ⟨h1, ?_⟩
  unfold Lf.singles
  rw [h3 h.cnt_pos, h.cnt_u]
theorem each_right : ∀ (rows : List Lf) (bh : Nat), right bh rows = 0 → right bh (each rows) = 0
  | [], bh, _ => rfl
  | r :: rs, bh, h => by
    obtain ⟨h1, h2, h3⟩ := right_cons h
    obtain ⟨k1, k2⟩ := singles_right h1 h2
    show right bh (r.singles ++ each rs) = 0
    refine right_append.2 ⟨k1, ?_⟩
    rw [k2]
    exact each_right rs _ h3
theorem joins_singles {r : Lf} (h : r.Ok) (out : List Lf) (hout : ∀ y ∈ out, 0 ≤ y.n) : r.singles.foldl runs1 out = runs1 out r := by
  have hu0 : r.u / 4096 * 4096 = r.u := by rcases r.u_or with h | h <;> rw [h]
  have aux : ∀ k, k < r.cnt → ((List.range (k + 1)).map r.single).foldl runs1 out = runs1 out (r.with (((k + 1) * (r.u / 4096) : Nat) : Int)) := by
    intro k
    induction k with
    | zero =>
      intro _
      show runs1 out (r.single 0) = _
      congr 1
      exact Lf.ext_ (by show r.v + 0 * r.u = r.v; simp) (by show r.p + 0 * r.u = r.p; simp) (by show ((r.u / 4096 : Nat) : Int) = (((0 + 1) * (r.u / 4096) : Nat) : Int); rw [Nat.zero_add, Nat.one_mul]) rfl rfl rfl
    | succ k ih =>
      intro hk
      rw [List.range_succ, List.map_append, List.foldl_append, ih (by omega)]
      show runs1 (runs1 out _) (r.single (k + 1)) = _
      obtain ⟨m, hm⟩ : ∃ m, m = r.u / 4096 := ⟨_, rfl⟩
      rw [← hm] at hu0 ⊢
      have hsn : (r.single (k + 1)).n = (m : Int) := by rw [hm]; rfl
      have hlen : (k + 1) * m * 4096 = (k + 1) * r.u := by rw [Nat.mul_assoc, hu0]
      have hsum : (((k + 1) * m : Nat) : Int) + (m : Int) = (((k + 1 + 1) * m : Nat) : Int) := by rw [Nat.succ_mul (k + 1)]; simp
      rcases snoc_cases out with rfl | ⟨a, y, rfl⟩
      · rw [runs1_nil, runs1_nil]
        rw [show [r.with (((k + 1) * m : Nat) : Int)] = [] ++ [r.with (((k + 1) * m : Nat) : Int)] from rfl, runs1_snoc, if_pos, List.nil_append]
        · congr 1
          exact Lf.ext_ rfl rfl (by show (((k + 1) * m : Nat) : Int) + (r.single (k + 1)).n = _; rw [hsn, hsum]; rfl) rfl rfl rfl
        · refine meets_iff.2 ⟨?_, ?_, rfl, rfl, rfl⟩
          · show r.v + (((k + 1) * m : Nat) : Int).toNat * 4096 = r.v + (k + 1) * r.u
            rw [Int.toNat_natCast, hlen]
          · show r.p + (((k + 1) * m : Nat) : Int).toNat * 4096 = r.p + (k + 1) * r.u
            rw [Int.toNat_natCast, hlen]
      · rw [runs1_snoc, runs1_snoc]
        have hms : meets y (r.with (((k + 1) * m : Nat) : Int)) = meets y (r.with (((k + 1 + 1) * m : Nat) : Int)) := rfl
        rw [hms]
        split
        · rename_i hmt
          obtain ⟨m1, m2, m3, m4, m5⟩ := meets_iff.1 hmt
          rw [runs1_snoc, if_pos]
          · congr 2
            exact Lf.ext_ rfl rfl (by show (y.n + (((k + 1) * m : Nat) : Int)) + (r.single (k + 1)).n = y.n + (((k + 1 + 1) * m : Nat) : Int); rw [hsn, Int.add_assoc, hsum]) rfl rfl rfl
          · refine meets_iff.2 ⟨?_, ?_, m3, m4, m5⟩
            · show y.v + (y.n + (((k + 1) * m : Nat) : Int)).toNat * 4096 = r.v + (k + 1) * r.u
              rw [show (y.n + (((k + 1) * m : Nat) : Int)).toNat = y.n.toNat + (k + 1) * m by have := hout y (by simp); omega, Nat.add_mul, hlen, ← Nat.add_assoc, m1]
              rfl
            · show y.p + (y.n + (((k + 1) * m : Nat) : Int)).toNat * 4096 = r.p + (k + 1) * r.u
              rw [show (y.n + (((k + 1) * m : Nat) : Int)).toNat = y.n.toNat + (k + 1) * m by have := hout y (by simp); omega, Nat.add_mul, hlen, ← Nat.add_assoc, m2]
              rfl
        · rw [runs1_snoc, if_pos]
          · congr 2
            exact Lf.ext_ rfl rfl (by show (((k + 1) * m : Nat) : Int) + (r.single (k + 1)).n = _; rw [hsn, hsum]; rfl) rfl rfl rfl
          · refine meets_iff.2 ⟨?_, ?_, rfl, rfl, rfl⟩
            · show r.v + (((k + 1) * m : Nat) : Int).toNat * 4096 = r.v + (k + 1) * r.u
              rw [Int.toNat_natCast, hlen]
            · show r.p + (((k + 1) * m : Nat) : Int).toNat * 4096 = r.p + (k + 1) * r.u
              rw [Int.toNat_natCast, hlen]
  have hc := h.cnt_pos
  have hcu := h.cnt_u
  have := aux (r.cnt - 1) (by omega)
  rw [show r.cnt - 1 + 1 = r.cnt by omega] at this
  unfold Lf.singles
  rw [this]
  congr 1
  refine Lf.ext_ rfl rfl ?_ rfl rfl rfl
  show ((r.cnt * (r.u / 4096) : Nat) : Int) = r.n
  have h1 := h.n1
  have h2 : r.cnt * (r.u / 4096) * 4096 = r.n.toNat * 4096 := by rw [Nat.mul_assoc, hu0, hcu]
  have h3 := Nat.eq_of_mul_eq_mul_right (by decide) h2
  rw [h3]; omega
theorem right_pos : ∀ {rows : List Lf} {bh : Nat}, right bh rows = 0 → ∀ r ∈ rows, 0 ≤ r.n
  | [], _, _, r, h => by cases h
  | r :: rs, bh, h, r', h' => by
    obtain ⟨a, _, c⟩ := right_cons h
    rcases List.mem_cons.1 h' with rfl | h'
    · have := a.n1; omega
    · exact right_pos c _ h'
theorem joins_each : ∀ (rows out : List Lf), right 0 out = 0 → right (endOf 0 out) rows = 0 → (each rows).foldl runs1 out = rows.foldl runs1 out
  | [], out, _, _ => rfl
  | r :: rs, out, h, hr => by
    obtain ⟨h1, h2, h3⟩ := right_cons hr
    obtain ⟨k1, k2, k3⟩ := runs1_right h h1 h2
    show (r.singles ++ each rs).foldl runs1 out = rs.foldl runs1 (runs1 out r)
    rw [List.foldl_append, joins_singles h1 out (right_pos h)]
    exact joins_each rs _ k1 (by rw [k2]; exact h3)
theorem runs_each {rows : List Lf} (h : right 0 rows = 0) : runs (each rows) = runs rows := by
  rw [runs_ok h, runs_ok (each_right rows 0 h)]
  exact joins_each rows [] rfl h
end Pg
end Go.Proofs.Ytblfagmoilhdnaa

/- The walk of pages.Runs. -/
set_option linter.unusedVariables false
set_option linter.unusedSimpArgs false
namespace Go.Proofs.Ytblfagmoilhdnaa
open Go.RowKit

theorem infoLeaf : (Try.prog.info? 47).map (fun i => (i.zero, i.size, i.bytes)) = some (some (.agg #[.int .u64 0, .int .u64 0, .int .i64 0, .bool false, .bool false, .bool false]), 6, 32) := by kernel_rfl
theorem eqlL (w : World) (a b : Pg.Lf) (c : Bool) (hc : (decide (a.v = b.v) && decide (a.p = b.p) && decide (a.n = b.n) && a.b == b.b && a.w == b.w && a.x == b.x) = c) : (binOp .eql 47 (lfV a) (lfV b)).run Try.prog w = .ok (.bool c) w := by
  subst hc
  obtain ⟨a1, a2, a3, a4, a5, a6⟩ := a
  obtain ⟨b1, b2, b3, b4, b5, b6⟩ := b
  unfold lfV
  go_simp
  by_cases h1 : a1 = b1
  · subst h1
    by_cases h2 : a2 = b2
    · subst h2
      by_cases h3 : a3 = b3
      · subst h3
        cases a4 <;> cases a5 <;> cases a6 <;> cases b4 <;> cases b5 <;> cases b6 <;> simp
      · simp [h3]
    · have h2' : ¬ (a2 : Int) = (b2 : Int) := by omega
      simp [h2, h2']
  · have h1' : ¬ (a1 : Int) = (b1 : Int) := by omega
    simp [h1, h1']
theorem eqlM (w : World) (y x : Pg.Lf) (V P : Nat) (hv : V = y.v + y.n.toNat * 4096) (hp : P = y.p + y.n.toNat * 4096) : (binOp .eql 47 (lfV ⟨V, P, x.n, y.b, y.w, y.x⟩) (lfV x)).run Try.prog w = .ok (.bool (Pg.meets y x)) w := by
  refine eqlL w ⟨V, P, x.n, y.b, y.w, y.x⟩ x _ ?_
  subst hv hp
  unfold Pg.meets
  simp
theorem wpList_bin {P : Program} {ops : Array Oper} {rest : List Oper} {o : Oper} {a : Act} {Q : Exit → Act → World → Prop} {w : World} (hgd : Region.wanted o (yielded ops a.tmps) = true) (b : BinOp) (t : TypeId) (x y : Operand) (s : TypeId) (ho : o.op = .binOp b t x y s) {xs ys : Array Value} {v : Value} (hx : a.eval x = .agg xs) (hy : a.eval y = .agg ys) (hm : P.eqGuardType P.depth t = false)
    (hrun : (binOp b t (.agg xs) (.agg ys)).run P w = .ok v w) (h : wpList P ops Q rest (a.put o.dst v) w) : wpList P ops Q (o :: rest) a w :=
  wpList_wanted hgd fun _ hK => by
    unfold Oper.wp execOp
    simp only [ho, hx, hy, Sem.run_bind, run_eqGuard_agg (hm := hm), hrun, Result.andThen_ok]
    exact hK _ _ h
theorem guardLeaf : Try.prog.eqGuardType Try.prog.depth 47 = false := by kernel_rfl
def lall (l : List Pg.Lf) : List Value := l.flatMap lcells
theorem lall_len (l : List Pg.Lf) : (lall l).length = l.length * 6 := by
  induction l with
  | nil => rfl
  | cons r l ih =>
    unfold lall at ih ⊢
    rw [List.flatMap_cons, List.length_append, ih, lcells_len, List.length_cons]; omega
theorem lall_at {l : List Pg.Lf} {k : Nat} {r : Pg.Lf} (h : l[k]? = some r) (j : Nat) (hj : j < 6) : (lall l)[6 * k + j]? = (lcells r)[j]? := flat_at lcells 6 lcells_len l k j r h hj
theorem lall_snoc (a : List Pg.Lf) (x : Pg.Lf) : lall (a ++ [x]) = lall a ++ lcells x := by simp [lall]
theorem lall_set (a : List Pg.Lf) (y : Pg.Lf) (n : Int) : (lall (a ++ [y])).set (6 * a.length + 2) (.int .i64 n) = lall (a ++ [y.with n]) := by
  rw [lall_snoc, lall_snoc, List.set_append_right _ _ (by rw [lall_len]; omega), lall_len, show 6 * a.length + 2 - a.length * 6 = 2 by omega]
  rfl
theorem Pg.right_len : ∀ {rows : List Pg.Lf} {bh : Nat}, Pg.right bh rows = 0 → bh ≤ 549755813888 → bh + rows.length * 4096 ≤ 549755813888
  | [], bh, _, h => by simpa using h
  | r :: rs, bh, h, _ => by
    obtain ⟨h1, h2, h3⟩ := Pg.right_cons h
    have h4 := h1.n1
    have h5 := h1.vl
    have := Pg.right_len h3 h5
    rw [List.length_cons]
    omega
/-- a list of rows in memory of its own -/
def OwnL (w : World) (B : Nat) (A : Option Addr) (c : Nat) (l : List Pg.Lf) : Prop := w.ownsRow B 47 6 (.slice A l.length c) l.length (lall l)
theorem oneCell_leaf (r : Pg.Lf) : ∀ v ∈ lcells r, v.oneCell' = true := by
  intro v hv
  simp only [lcells, List.mem_cons, List.not_mem_nil, or_false] at hv
  rcases hv with rfl | rfl | rfl | rfl | rfl | rfl <;> rfl
set_option maxRecDepth 100000 in
set_option maxHeartbeats 1000000 in
theorem Runs_any (A : Option Addr) (n c : Nat) (rows : List Pg.Lf) (w : World) (hr : IsL w w.heap.size A n rows) :
    Calls Try.prog 28 #[.slice A n c] w fun e w' => ∃ A' c', e = .returned (.slice A' (Pg.runs rows).length c') ∧ OwnL w' w.heap.size A' c' (Pg.runs rows) ∧ Below w.heap.size w w' := by
  obtain ⟨i0, hi0, hz1, hz2, hz3⟩ := info_parts infoLeaf
  have HI := Lib.hid hi0; have HZ1 := Lib.hid hz1; have HZ2 := Lib.hid hz2; have HZ3 := Lib.hid hz3
  have HRT := Lib.hid (right_any A n c rows w hr)
  obtain ⟨b, off, HF⟩ := hr.form
  have HL := Lib.hid hr.2.2.1
  have hn := hr.2.2.2
  have HIN := Lib.hid hr.2.1
  clear hr hi0 hz1 hz2 hz3
  go_enter Try.func28, Try.ntmps28
  go_wp2_with fail
  refine HRT.out.mono ?_
  rintro e w1 ⟨rfl, hb1⟩
  have HB1 := Lib.hid hb1
  clear hb1
  obtain ⟨R, hR⟩ : ∃ R, R = Pg.right 0 rows := ⟨_, rfl⟩
  rw [← hR]
  by_cases h0 : R = 0
  · have HR0 : Hid (Pg.right 0 rows = 0) := Lib.hid (hR ▸ h0)
    have f0 : ((R : Int) != 0) = false := by rw [bne_eq_false_iff_eq]; omega
    clear h0 hR
    go_wp2_with fail
    go_loopw [3, 15] (fun o i wr => ∃ (k c1 m : Nat) (A1 : Option Addr) (out : List Pg.Lf), k ≤ n ∧ m ≤ k ∧ i = .int .i64 k ∧ o = .slice A1 m c1 ∧ Hid (OwnL wr w.heap.size A1 c1 out ∧ out.length = m) ∧ Hid (Pg.joins rows = (rows.drop k).foldl Pg.runs1 out) ∧ Hid (Pg.right 0 out = 0 ∧ Pg.right (Pg.endOf 0 out) (rows.drop k) = 0) ∧ Hid (Below w.heap.size w wr)) (fun _ i _ => n - (intOf i).toNat)
    case atStart => exact ⟨0, 0, 0, none, [], by omega, by omega, rfl, rfl, Lib.hid ⟨own_nil _ _ _ _, rfl⟩, Lib.hid rfl, Lib.hid ⟨rfl, HR0.out⟩, HB1⟩
    case round =>
      obtain ⟨k, c1, m, A1, out, hk, hm, rfl, rfl, HO, HJ, HSR, HB⟩ := hrel
      by_cases hkn : k < n
      · obtain ⟨hA, hbB, hc⟩ := HF.out (by omega)
        subst hA
        obtain ⟨r, hrk⟩ : ∃ r, rows[k]? = some r := ⟨_, List.getElem?_eq_getElem (by have := HL.out; omega)⟩
        have hd : rows.drop k = r :: rows.drop (k + 1) := by
          obtain ⟨hlt, he⟩ := List.getElem?_eq_some_iff.1 hrk
          rw [List.drop_eq_getElem_cons hlt, he]
        have c0 := (HB.out.cell (p := ⟨b, off + k * 6, none⟩) hbB).trans (hc k r hrk 0 _ rfl)
        have c1' := (HB.out.cell (p := ⟨b, off + k * 6 + 1, none⟩) hbB).trans (hc k r hrk 1 _ rfl)
        have c2 := (HB.out.cell (p := ⟨b, off + k * 6 + 2, none⟩) hbB).trans (hc k r hrk 2 _ rfl)
        have c3 := (HB.out.cell (p := ⟨b, off + k * 6 + 3, none⟩) hbB).trans (hc k r hrk 3 _ rfl)
        have c4 := (HB.out.cell (p := ⟨b, off + k * 6 + 4, none⟩) hbB).trans (hc k r hrk 4 _ rfl)
        have c5 := (HB.out.cell (p := ⟨b, off + k * 6 + 5, none⟩) hbB).trans (hc k r hrk 5 _ rfl)
        have hrt := HSR.out
        rw [hd] at hrt
        obtain ⟨hrok, hre, hrr⟩ := Pg.right_cons hrt.2
        have HROK := Lib.hid hrok
        have hjo := HJ.out
        rw [hd, List.foldl_cons] at hjo
        have HJO := Lib.hid hjo
        have hnx := Pg.runs1_right hrt.1 hrok hre
        have HNX : Hid (Pg.right 0 (Pg.runs1 out r) = 0 ∧ Pg.right (Pg.endOf 0 (Pg.runs1 out r)) (rows.drop (k + 1)) = 0) := Lib.hid ⟨hnx.1, by rw [hnx.2.1]; exact hrr⟩
        have hr1 := hrok.n1
        have hr5 := hrok.vl
        have hr6 := hrok.pl
        have HRT0 := Lib.hid hrt.1
        obtain ⟨v, p, nn, bg, wt, ex⟩ := r
        simp only at hr1 hr5 hr6
        obtain ⟨xn, rfl⟩ : ∃ xn : Nat, nn = xn := ⟨nn.toNat, by omega⟩
        simp only [Int.toNat_natCast] at hr1 hr5 hr6
        clear hc hrk hrt hrok hre hrr hjo hnx hd HSR HJ HRT
        go_upto_region 7 with fail
        have hrx := Row.new wr 47 (lcells ⟨v, p, xn, bg, wt, ex⟩)
        have hba := HB.out.alloc HB.out.size (.cells (lcells ⟨v, p, xn, bg, wt, ex⟩).toArray 47)
        have hox : OwnL (wr.alloc (.cells (lcells ⟨v, p, xn, bg, wt, ex⟩).toArray 47)) w.heap.size A1 c1 out := World.ownsRow.alloc HO.out.1 _
        have hom := HO.out.2
        unfold lcells at hrx hba hox
        simp only [] at hrx hba hox
        obtain ⟨gx, hgx⟩ : ∃ g, g = wr.heap.size := ⟨_, rfl⟩
        rw [← hgx] at hrx ⊢
        obtain ⟨w2, hw2⟩ : ∃ w2, w2 = wr.alloc (.cells #[.int .u64 (v : Nat), .int .u64 (p : Nat), .int .i64 (xn : Nat), .bool bg, .bool wt, .bool ex] 47) := ⟨_, rfl⟩
        rw [← hw2] at hrx hba hox ⊢
        have HRX := Lib.hid hrx
        have HBA := Lib.hid hba
        have HOX := Lib.hid hox
        clear c0 c1' c2 c3 c4 c5 HB HO hrx hba hox hgx hw2 HF
        rcases Pg.snoc_cases out with rfl | ⟨a, y, rfl⟩
        · obtain rfl : m = 0 := hom.symm
          clear hom
          have d0 := HRX.out.cell 0
          have d1 := HRX.out.cell 1
          have d2 := HRX.out.cell 2
          have d3 := HRX.out.cell 3
          have d4 := HRX.out.cell 4
          have d5 := HRX.out.cell 5
          simp only [List.getElem?_cons_zero, List.getElem?_cons_succ] at d0 d1 d2 d3 d4 d5
          have hxl := HRX.out.lt
          have HR1 : Hid (Reads (w2.alloc (.cells #[.int .u64 (v : Nat), .int .u64 (p : Nat), .int .i64 (xn : Nat), .bool bg, .bool wt, .bool ex] 47)) (w2.alloc (.cells #[.int .u64 (v : Nat), .int .u64 (p : Nat), .int .i64 (xn : Nat), .bool bg, .bool wt, .bool ex] 47)).heap.size 6 (some ⟨w2.heap.size, 0, none⟩) 1 (lcells ⟨v, p, xn, bg, wt, ex⟩)) := Lib.hid (isL_one w2 ⟨v, p, xn, bg, wt, ex⟩ (by unfold Pg.Lf.In; simp only; omega)).1
          go_upto_region 15 with fail
          go_wp2_with (at_builtin; refine wpList_append_sl _ (by rfl) (.tmp 60) (.tmp 62) 48 rfl w.heap.size 47 i0 _ 6 32 Try.underlying48 HI.out HZ1.out HZ2.out HZ3.out rfl (by omega) (.slice A1 0 c1) 0 (lall []) rfl (HOX.out.alloc _) _ (some ⟨w2.heap.size, 0, none⟩) 1 1 (lcells ⟨v, p, xn, bg, wt, ex⟩) rfl HR1.out (oneCell_leaf _) (by unfold maxLen; omega) (by omega) (by simp; have := HBA.out.size; omega) ?_; intro A3 c3 w3 hown3 hrd3 hg3 hat3)
          go_roundw
          case rel =>
            refine ⟨k + 1, c3, 1, A3, Pg.runs1 [] ⟨v, p, xn, bg, wt, ex⟩, by omega, by omega, by go_num, rfl, Lib.hid ⟨?_, ?_⟩, Lib.hid HJO.out, HNX, Lib.hid ?_⟩
            · exact hown3
            · rfl
            · exact (HBA.out.alloc HBA.out.size _).grown hg3 (by simp; have := HBA.out.size; omega) (fun k hk => (HOX.out.lt k hk).1)
          case measure => simp [intOf]; omega
        · obtain ⟨L, hL⟩ : ∃ L, L = a.length := ⟨_, rfl⟩
          obtain rfl : m = L + 1 := by rw [← hom, hL]; simp
          obtain ⟨ha0, hy0⟩ := Pg.right_append.1 HRT0.out
          have hmlen : L + 1 ≤ 134217728 := by have := Pg.right_len HRT0.out (by omega); rw [List.length_append] at this; simp at this; omega
          obtain ⟨hyok, hya⟩ := Pg.right_one.1 hy0
          have HYOK := Lib.hid hyok
          have HAL := Lib.hid hL
          obtain ⟨g1, rfl, hBg, hg1l, hcc, hcm⟩ := own_some HOX.out (by simp)
          have hcells : ∀ j u, (lcells y)[j]? = some u → w2.cell? ⟨g1, L * 6 + j, none⟩ = some u := fun j u hu => by
            have hj : j < 6 := (List.getElem?_eq_some_iff.1 hu).1
            rw [show L * 6 + j = 6 * L + j by omega, World.ownsRow.cellAt HOX.out (6 * L + j) (by simp; omega), lall_at (k := L) (r := y) (by rw [hL]; simp) j hj, hu]
          have hmt := fun (wx : World) => eqlM wx y ⟨v, p, xn, bg, wt, ex⟩ _ _ rfl rfl
          have hy1 := hyok.n1
          have hy5 := hyok.vl
          have hy6 := hyok.pl
          have hy7 := (Pg.meets_iff (y := y) (x := ⟨v, p, xn, bg, wt, ex⟩)).1
          have hfr := World.ownsRow.frozenAt HOX.out (6 * L + 2)
          obtain ⟨yv, yp, yn', yb, yw, yx⟩ := y
          simp only at hy1 hy5 hy6 hmt hy7
          obtain ⟨yn, rfl⟩ : ∃ yn : Nat, yn' = yn := ⟨yn'.toNat, by omega⟩
          simp only [Int.toNat_natCast] at hy1 hy5 hy6 hmt hy7
          have e0 := hcells 0 _ rfl
          have e1 := hcells 1 _ rfl
          have e2 := hcells 2 _ rfl
          have e3 := hcells 3 _ rfl
          have e4 := hcells 4 _ rfl
          have e5 := hcells 5 _ rfl
          rw [Nat.add_zero] at e0
          rw [show 6 * L + 2 = L * 6 + 2 by omega] at hfr
          obtain ⟨V1, hV1⟩ : ∃ V, V = yv + yn * 4096 := ⟨_, rfl⟩
          obtain ⟨P1, hP1⟩ : ∃ V, V = yp + yn * 4096 := ⟨_, rfl⟩
          rw [← hV1, ← hP1] at hmt
          unfold lfV at hmt
          simp only [] at hmt
          obtain ⟨T, hT⟩ : ∃ T, T = Pg.meets ⟨yv, yp, yn, yb, yw, yx⟩ ⟨v, p, xn, bg, wt, ex⟩ := ⟨_, rfl⟩
          rw [← hT] at hmt hy7
          have q1 : IntKind.u64.wrap (yn : Int) = (yn : Int) := by rw [IntKind.wrap_u64]; omega
          have q2 : ((yn : Int) * 4096) % 18446744073709551616 = (yn : Int) * 4096 := by omega
          have q3 : IntKind.u64.wrap ((yn : Int) * 4096) = (yn : Int) * 4096 := by rw [IntKind.wrap_u64]; omega
          have q4 : ((yv : Int) + (yn : Int) * 4096) % 18446744073709551616 = (V1 : Int) := by omega
          have q5 : IntKind.u64.wrap ((yv : Int) + (yn : Int) * 4096) = (V1 : Int) := by rw [IntKind.wrap_u64]; omega
          have q6 : ((yp : Int) + (yn : Int) * 4096) % 18446744073709551616 = (P1 : Int) := by omega
          have q7 : IntKind.u64.wrap ((yp : Int) + (yn : Int) * 4096) = (P1 : Int) := by rw [IntKind.wrap_u64]; omega
          have q8 : ((yv : Int) + (yn : Int) * 4096) = (V1 : Int) := by omega
          have q9 : ((yp : Int) + (yn : Int) * 4096) = (P1 : Int) := by omega
          have HT := Lib.hid hT
          have HMT := Lib.hid hmt
          have HY7 := Lib.hid hy7
          have hxl := HRX.out.lt
          have d0 := HRX.out.cell 0
          have d1 := HRX.out.cell 1
          have d2 := HRX.out.cell 2
          have d3 := HRX.out.cell 3
          have d4 := HRX.out.cell 4
          have d5 := HRX.out.cell 5
          simp only [List.getElem?_cons_zero, List.getElem?_cons_succ] at d0 d1 d2 d3 d4 d5
          clear hL hom ha0 hy0 hyok hya hcells hmt hT hV1 hP1 hy7
          go_upto_region 12 with fail
          have hrl : Row ((w2.alloc (.cells #[.int .u64 (yv : Nat), .int .u64 (yp : Nat), .int .i64 (yn : Nat), .bool yb, .bool yw, .bool yx] 47)).alloc (.cells #[.int .u64 (yv : Nat), .int .u64 (yp : Nat), .int .i64 (yn : Nat), .bool yb, .bool yw, .bool yx] 47)) w2.heap.size 47 (lcells ⟨yv, yp, yn, yb, yw, yx⟩) := (Row.new w2 47 (lcells ⟨yv, yp, yn, yb, yw, yx⟩)).alloc _
          have hrn : Row ((w2.alloc (.cells #[.int .u64 (yv : Nat), .int .u64 (yp : Nat), .int .i64 (yn : Nat), .bool yb, .bool yw, .bool yx] 47)).alloc (.cells #[.int .u64 (yv : Nat), .int .u64 (yp : Nat), .int .i64 (yn : Nat), .bool yb, .bool yw, .bool yx] 47)) (w2.heap.size + 1) 47 (lcells ⟨yv, yp, yn, yb, yw, yx⟩) := by
            have h := Row.new (w2.alloc (.cells #[.int .u64 (yv : Nat), .int .u64 (yp : Nat), .int .i64 (yn : Nat), .bool yb, .bool yw, .bool yx] 47)) 47 (lcells ⟨yv, yp, yn, yb, yw, yx⟩)
            rw [show (w2.alloc (.cells #[.int .u64 (yv : Nat), .int .u64 (yp : Nat), .int .i64 (yn : Nat), .bool yb, .bool yw, .bool yx] 47)).heap.size = w2.heap.size + 1 by simp] at h
            exact h
          have hb4 : Below w2.heap.size w2 ((w2.alloc (.cells #[.int .u64 (yv : Nat), .int .u64 (yp : Nat), .int .i64 (yn : Nat), .bool yb, .bool yw, .bool yx] 47)).alloc (.cells #[.int .u64 (yv : Nat), .int .u64 (yp : Nat), .int .i64 (yn : Nat), .bool yb, .bool yw, .bool yx] 47)) := ((Below.refl w2.heap.size w2).alloc (Nat.le_refl _) _).alloc (by simp) _
          have hbs := HBA.out.size
          obtain ⟨gl, hgl⟩ : ∃ g, g = w2.heap.size := ⟨_, rfl⟩
          have hgn1 : gl ≠ gl + 1 := by omega
          have hgn2 : gx ≠ gl + 1 := by omega
          have hgn3 : g1 ≠ gl + 1 := by omega
          have hgw : w.heap.size ≤ gl + 1 := by omega
          have hgw2 : w2.heap.size ≤ gl + 1 := by omega
          have x2' := HRX.out.cell 2
          rw [← hgl] at hrl hrn ⊢
          obtain ⟨w4, hw4⟩ : ∃ w4, w4 = (w2.alloc (.cells #[.int .u64 (yv : Nat), .int .u64 (yp : Nat), .int .i64 (yn : Nat), .bool yb, .bool yw, .bool yx] 47)).alloc (.cells #[.int .u64 (yv : Nat), .int .u64 (yp : Nat), .int .i64 (yn : Nat), .bool yb, .bool yw, .bool yx] 47) := ⟨_, rfl⟩
          rw [← hw4] at hrl hrn hb4 ⊢
          obtain ⟨gn, hgn⟩ : ∃ g, g = gl + 1 := ⟨_, rfl⟩
          rw [← hgn] at hrn hgn1 hgn2 hgn3 hgw hgw2 ⊢
          have HRL := Lib.hid hrl; have HRN := Lib.hid hrn; have HB4 := Lib.hid hb4
          have l0 := hrl.cell 0
          have l1 := hrl.cell 1
          have n0 := hrn.cell 0
          have n1 := hrn.cell 1
          have n2 := hrn.cell 2
          have n3 := hrn.cell 3
          have n4 := hrn.cell 4
          have n5 := hrn.cell 5
          have z0 := hrn.frozen 0
          have z1 := hrn.frozen 1
          have z2 := hrn.frozen 2
          have x2 := (HRX.out.below hb4 hxl).cell 2
          have hll := hrl.lt; have hnl := hrn.lt; have hxl4 := (HRX.out.below hb4 hxl).lt
          simp only [lcells, List.getElem?_cons_zero, List.getElem?_cons_succ] at l0 l1 n0 n1 n2 n3 n4 n5 x2
          clear e0 e1 e2 e3 e4 e5 d0 d1 d2 d3 d4 d5 hrl hrn hb4 hw4 hgl hgn hfr x2'
          go_region
          have hb5 : Below w2.heap.size w2 (((w4.setCell ⟨gn, 0, none⟩ (.int .u64 (V1 : Nat))).setCell ⟨gn, 1, none⟩ (.int .u64 (P1 : Nat))).setCell ⟨gn, 2, none⟩ (.int .i64 (xn : Nat))).drew := (((HB4.out.setCell (p := ⟨gn, 0, none⟩) hgw2 _).setCell (p := ⟨gn, 1, none⟩) hgw2 _).setCell (p := ⟨gn, 2, none⟩) hgw2 _).drew
          have hrn5 : Row (((w4.setCell ⟨gn, 0, none⟩ (.int .u64 (V1 : Nat))).setCell ⟨gn, 1, none⟩ (.int .u64 (P1 : Nat))).setCell ⟨gn, 2, none⟩ (.int .i64 (xn : Nat))).drew gn 47 [.int .u64 (V1 : Nat), .int .u64 (P1 : Nat), .int .i64 (xn : Nat), .bool yb, .bool yw, .bool yx] := ((HRN.out.set_ 0 _).set_ 1 _).set_ 2 _
          generalize (((w4.setCell ⟨gn, 0, none⟩ (.int .u64 (V1 : Nat))).setCell ⟨gn, 1, none⟩ (.int .u64 (P1 : Nat))).setCell ⟨gn, 2, none⟩ (.int .i64 (xn : Nat))).drew = w5 at *
          have HB5 := Lib.hid hb5
          clear l0 l1 n0 n1 n2 n3 n4 n5 z0 z1 z2 x2 hll hnl hxl4 HRL HRN HB4
          have n0 := hrn5.cell 0
          have n1 := hrn5.cell 1
          have n2 := hrn5.cell 2
          have n3 := hrn5.cell 3
          have n4 := hrn5.cell 4
          have n5 := hrn5.cell 5
          have hnl := hrn5.lt
          have hrx5 := HRX.out.below hb5 hxl
          have d0 := hrx5.cell 0
          have d1 := hrx5.cell 1
          have d2 := hrx5.cell 2
          have d3 := hrx5.cell 3
          have d4 := hrx5.cell 4
          have d5 := hrx5.cell 5
          have hxl5 := hrx5.lt
          simp only [List.getElem?_cons_zero, List.getElem?_cons_succ] at n0 n1 n2 n3 n4 n5 d0 d1 d2 d3 d4 d5
          have hmt := HMT.out
          have HOX5 : Hid (OwnL w5 w.heap.size (some ⟨g1, 0, none⟩) c1 (a ++ [⟨yv, yp, yn, yb, yw, yx⟩])) := Lib.hid (owns_below HOX.out hb5)
          have HBA5 : Hid (Below w.heap.size w w5) := Lib.hid (HBA.out.trans (hb5.mono HBA.out.size))
          have e2 : w5.cell? ⟨g1, L * 6 + 2, none⟩ = some (.int .i64 (yn : Nat)) := by
            rw [show L * 6 + 2 = 6 * L + 2 by omega, World.ownsRow.cellAt HOX5.out (6 * L + 2) (by simp; have := HAL.out; omega), lall_at (k := L) (r := ⟨yv, yp, yn, yb, yw, yx⟩) (by rw [HAL.out]; simp) 2 (by omega)]
            rfl
          have hfr : w5.frozen? ⟨g1, L * 6 + 2, none⟩ = false := World.ownsRow.frozenAt HOX5.out _
          have hg15 : g1 < w5.heap.size := Nat.lt_of_lt_of_le hg1l hb5.size
          clear hb5 hrn5 hrx5 HRX HOX HBA q1 q2 q3 q4 q5 q6 q7 q8 q9 hgn1 hgn2 hgn3
          unfold maxLen at hcm
          have HMT2 := Lib.hid hmt
          clear hmt
          go_upto_region 13 with fail
          go_cut [48] (fun x wx => x = .bool T ∧ wx = w5)
          case first =>
            go_wp2_with (refine wpList_bin (by rfl) .eql 47 (.tmp 46) (.tmp 47) _ rfl (by rfl) (by rfl) guardLeaf (HMT2.out _) ?_)
            go_meet
            case rel => exact ⟨rfl, rfl⟩
          case rest =>
            obtain ⟨rfl, hwx⟩ := hcut
            rw [hwx]
            clear hwx HMT2
            cases hTT : T with
            | true =>
              obtain ⟨m1, m2, _⟩ := HY7.out hTT
              have h9 : yn + xn < 9223372036854775808 := by have := hr5; omega
              have r1 : IntKind.i64.wrap ((yn : Int) + (xn : Int)) = (yn : Int) + (xn : Int) := by rw [IntKind.wrap_i64]; omega
              have HMS : Hid (Pg.runs1 (a ++ [⟨yv, yp, yn, yb, yw, yx⟩]) ⟨v, p, xn, bg, wt, ex⟩ = a ++ [⟨yv, yp, (yn : Int) + (xn : Int), yb, yw, yx⟩]) := Lib.hid (by
                rw [Pg.runs1_snoc, if_pos (by rw [← HT.out, hTT])]; rfl)
              have HOXS : Hid (OwnL (w5.setCell ⟨g1, L * 6 + 2, none⟩ (.int .i64 ((yn : Int) + (xn : Int)))) w.heap.size (some ⟨g1, 0, none⟩) c1 (a ++ [⟨yv, yp, (yn : Int) + (xn : Int), yb, yw, yx⟩])) := Lib.hid (by
                have h := (World.ownsRow.stored HOX5.out (6 * L + 2) (.int .i64 ((yn : Int) + (xn : Int)))).1
                rw [HAL.out, lall_set] at h
                rw [show L * 6 + 2 = 6 * a.length + 2 by rw [← HAL.out]; omega]
                unfold OwnL
                rw [show (a ++ [(⟨yv, yp, (yn : Int) + (xn : Int), yb, yw, yx⟩ : Pg.Lf)]).length = (a ++ [(⟨yv, yp, yn, yb, yw, yx⟩ : Pg.Lf)]).length by simp]
                exact h)
              clear m1 m2
              go_wp2_with fail
              go_region
              go_wp2_with fail
              go_roundw
              case rel =>
                refine ⟨k + 1, c1, L + 1, some ⟨g1, 0, none⟩, Pg.runs1 (a ++ [⟨yv, yp, yn, yb, yw, yx⟩]) ⟨v, p, xn, bg, wt, ex⟩, by omega, by omega, by go_num, rfl, Lib.hid ⟨?_, ?_⟩, Lib.hid HJO.out, HNX, Lib.hid ?_⟩
                · rw [HMS.out]; exact World.ownsRow.drew HOXS.out
                · rw [HMS.out, HAL.out]; simp
                · exact (HBA5.out.setCell (p := ⟨g1, L * 6 + 2, none⟩) hBg _).drew
              case measure => simp [intOf]; omega
            | false =>
              have HMS : Hid (Pg.runs1 (a ++ [⟨yv, yp, yn, yb, yw, yx⟩]) ⟨v, p, xn, bg, wt, ex⟩ = a ++ [⟨yv, yp, yn, yb, yw, yx⟩] ++ [⟨v, p, xn, bg, wt, ex⟩]) := Lib.hid (by
                rw [Pg.runs1_snoc, if_neg (by rw [← HT.out, hTT]; simp)])
              have HR1 : Hid (Reads (w5.alloc (.cells #[.int .u64 (v : Nat), .int .u64 (p : Nat), .int .i64 (xn : Nat), .bool bg, .bool wt, .bool ex] 47)) (w5.alloc (.cells #[.int .u64 (v : Nat), .int .u64 (p : Nat), .int .i64 (xn : Nat), .bool bg, .bool wt, .bool ex] 47)).heap.size 6 (some ⟨w5.heap.size, 0, none⟩) 1 (lcells ⟨v, p, xn, bg, wt, ex⟩)) := Lib.hid (isL_one w5 ⟨v, p, xn, bg, wt, ex⟩ (by unfold Pg.Lf.In; simp only; omega)).1
              have HOX6 : Hid (w5.ownsRow w.heap.size 47 6 (.slice (some ⟨g1, 0, none⟩) (L + 1) c1) (L + 1) (lall (a ++ [⟨yv, yp, yn, yb, yw, yx⟩]))) := Lib.hid (by
                have h := HOX5.out
                unfold OwnL at h
                rw [show (a ++ [(⟨yv, yp, yn, yb, yw, yx⟩ : Pg.Lf)]).length = L + 1 by rw [HAL.out]; simp] at h
                exact h)
              skip
              go_upto_region 15 with fail
              clear n0 n1 n2 n3 n4 n5
              go_wp2_with (at_builtin; refine wpList_append_sl _ (by rfl) (.tmp 60) (.tmp 62) 48 rfl w.heap.size 47 i0 _ 6 32 Try.underlying48 HI.out HZ1.out HZ2.out HZ3.out rfl (by omega) (.slice (some ⟨g1, 0, none⟩) (L + 1) c1) (L + 1) (lall (a ++ [⟨yv, yp, yn, yb, yw, yx⟩])) rfl (HOX6.out.alloc _) _ (some ⟨w5.heap.size, 0, none⟩) 1 1 (lcells ⟨v, p, xn, bg, wt, ex⟩) rfl HR1.out (oneCell_leaf _) (by unfold maxLen; omega) (by omega) (by simp; have := HBA5.out.size; omega) ?_; intro A3 c3 w3 hown3 hrd3 hg3 hat3)
              go_roundw
              case rel =>
                refine ⟨k + 1, c3, L + 1 + 1, A3, Pg.runs1 (a ++ [⟨yv, yp, yn, yb, yw, yx⟩]) ⟨v, p, xn, bg, wt, ex⟩, by omega, by omega, by go_num, rfl, Lib.hid ⟨?_, ?_⟩, Lib.hid HJO.out, HNX, Lib.hid ?_⟩
                · rw [HMS.out]
                  unfold OwnL
                  rw [show (a ++ [(⟨yv, yp, yn, yb, yw, yx⟩ : Pg.Lf)] ++ [(⟨v, p, xn, bg, wt, ex⟩ : Pg.Lf)]).length = L + 1 + 1 by rw [HAL.out]; simp, lall_snoc]
                  exact hown3
                · rw [HMS.out, HAL.out]; simp
                · exact (HBA5.out.alloc HBA5.out.size _).grown hg3 (by simp; have := HBA5.out.size; omega) (fun k hk => (HOX6.out.lt k hk).1)
              case measure => simp [intOf]; omega
      · have HK : Hid (k = n) := Lib.hid (by omega)
        have hj := HJ.out
        rw [HK.out, List.drop_of_length_le (Nat.le_of_eq HL.out)] at hj
        have HJ2 : Hid (Pg.runs rows = out) := Lib.hid (by rw [Pg.runs_ok HR0.out, hj]; rfl)
        have HM := Lib.hid HO.out.2
        clear hj HJ HSR
        go_wp2_with fail
        go_ret
        refine ⟨A1, c1, ?_, ?_, HB.out⟩
        · rw [HJ2.out, HM.out]; rfl
        · rw [HJ2.out]; exact HO.out.1
  · have f0 : ((R : Int) != 0) = true := by rw [bne_iff_ne]; omega
    have HR := Lib.hid hR
    have HNZ := Lib.hid h0
    clear hR h0
    go_wp2_with fail
    go_ret
    have ha : Pg.runs rows = [] := by
      unfold Pg.runs
      rw [if_pos (by rw [← HR.out]; exact HNZ.out)]
    rw [ha]
    exact ⟨none, 0, rfl, own_nil _ _ _ _, HB1.out⟩
end Go.Proofs.Ytblfagmoilhdnaa
