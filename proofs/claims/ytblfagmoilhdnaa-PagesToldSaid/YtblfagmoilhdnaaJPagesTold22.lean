/- Texts of this claim, one behind the other: PgD. -/
import Derived.Test.YtblfagmoilhdnaaJPagesTold21
/- The walk of the builder's page. -/
set_option linter.unusedVariables false
set_option linter.unusedSimpArgs false
namespace Go.Proofs.Ytblfagmoilhdnaa
open Go.RowKit

theorem Pg.Pge.Ok.lt {q : Pg.Pge} (h : q.Ok) : q.v < 549755813888 ∧ q.p < 4294967296 := by
  have h1 := h.vl
  have h2 := h.pl
  rcases q.u_or with ⟨h, _⟩ | ⟨h, _⟩ <;> rw [h] at h1 h2 <;> omega
section
variable {w w' : World} {B g base : Nat} {s : Pg.St}
theorem Bd.set2 (h : Bd w B g base s) (m : Nat) : Bd (w.setCell ⟨g, 2, none⟩ (.int .i64 (m : Nat))) B g base { s with mid := m } := by
  obtain ⟨ga, c, hr, ho, ht⟩ := h; exact ⟨ga, c, hr.set_ 2 _, own_set ho hr (by decide) 2 _, ht⟩
theorem Bd.set3 (h : Bd w B g base s) (m : Nat) : Bd (w.setCell ⟨g, 3, none⟩ (.int .i64 (m : Nat))) B g base { s with low := m } := by
  obtain ⟨ga, c, hr, ho, ht⟩ := h; exact ⟨ga, c, hr.set_ 3 _, own_set ho hr (by decide) 3 _, ht⟩
theorem Bd.set4 (h : Bd w B g base s) (m : Nat) : Bd (w.setCell ⟨g, 4, none⟩ (.int .u64 (m : Nat))) B g base { s with virt := m } := by
  obtain ⟨ga, c, hr, ho, ht⟩ := h; exact ⟨ga, c, hr.set_ 4 _, own_set ho hr (by decide) 4 _, ht⟩
theorem Bd.below (h : Bd w B g base s) (hb : Below w.heap.size w w') : Bd w' B g base s := by
  obtain ⟨ga, c, hr, ho, ht⟩ := h; exact ⟨ga, c, hr.below hb hr.lt, owns_below ho hb, ht⟩
theorem Bd.lt (h : Bd w B g base s) : g < w.heap.size := by obtain ⟨ga, c, hr, _⟩ := h; exact hr.lt
theorem far_set1 (h : Bd w B g base s) (i : Nat) (v : Value) : Far w (w.setCell ⟨g, i, none⟩ v) := by
  obtain ⟨ga, c, hr, _⟩ := h
  exact Far.set_ (cur := (bcells base s.mid s.low s.virt s.all.length c (some ⟨ga, 0, none⟩)).toArray) hr (.inl rfl) i v
theorem far_set2 (h : Bd w B g base s) (v lo : Nat) : Far w ((w.setCell ⟨g, 4, none⟩ (.int .u64 (v : Nat))).setCell ⟨g, 3, none⟩ (.int .i64 (lo : Nat))) := (far_set1 h 4 _).trans (far_set1 (h.set4 v) 3 _)
/-- a row of another type is none of the builder's -/
theorem Bd.row_ne (h : Bd w B g base s) {g' : Nat} {t : TypeId} {cs : List Value} (hr : Row w g' t cs) (ht : t ≠ 133) : g ≠ g' := by
  obtain ⟨ga, c, hr', _⟩ := h
  exact Blk.ne_ (cs := (bcells base s.mid s.low s.virt s.all.length c (some ⟨ga, 0, none⟩)).toArray) (cs' := cs.toArray) hr' hr (Ne.symm ht)
theorem openMid_len (base : Nat) (s : Pg.St) (v : Nat) : s.all.length ≤ (Pg.openMid base s v).all.length ∧ (Pg.openMid base s v).all.length ≤ s.all.length + 1 := by
  unfold Pg.openMid; split <;> simp [Pg.childE_len]
theorem openLow_len (base : Nat) (s : Pg.St) (v : Nat) : s.all.length ≤ (Pg.openLow base s v).all.length ∧ (Pg.openLow base s v).all.length ≤ s.all.length + 1 := by
  unfold Pg.openLow; split <;> simp [Pg.childE_len]
theorem openMid_in (base : Nat) (s : Pg.St) (v : Nat) (hm : s.mid < s.all.length) (hl : s.low < s.all.length) : (Pg.openMid base s v).mid < (Pg.openMid base s v).all.length ∧ (Pg.openMid base s v).low < (Pg.openMid base s v).all.length ∧ (Pg.openMid base s v).virt = s.virt := by
  unfold Pg.openMid; split
  · simp [Pg.childE_len]
  · exact ⟨hm, hl, rfl⟩
theorem openLow_in (base : Nat) (s : Pg.St) (v : Nat) (hm : s.mid < s.all.length) (hl : s.low < s.all.length) : (Pg.openLow base s v).low < (Pg.openLow base s v).all.length ∧ (Pg.openLow base s v).mid = s.mid ∧ (Pg.openLow base s v).virt = s.virt := by
  unfold Pg.openLow; split
  · simp [Pg.childE_len]
  · exact ⟨hl, rfl, rfl⟩
/-- what is behind the opening: the builder, and a row that stands by -/
def Opened (w wx : World) (B g base gx : Nat) (cs : List Value) (s : Pg.St) : Prop := Bd wx B g base s ∧ Row wx gx 47 cs ∧ Below B w wx ∧ Far w wx
/-- what is behind the opening: the builder, and a row that stands by -/
def OpenedE (w wx : World) (B g base gx : Nat) (cs : List Value) (s : Pg.St) : Prop := Bd wx B g base s ∧ Row wx gx 100 cs ∧ Below B w wx ∧ Far w wx
/-- a store into a table: what it needs, and what it leaves -/
theorem Bd.store (h : Bd w B g base s) {tof e : Nat} (ht : tof < s.all.length) (he : e < 512) : ∃ g1 c1 old, w.cell? ⟨g, 1, none⟩ = some (.slice (some ⟨g1, 0, none⟩) s.all.length c1) ∧ s.all.length ≤ c1 ∧ c1 ≤ 9223372036854775807 ∧ g1 < w.heap.size ∧
    w.cell? ⟨g1, tof * 512 + e, none⟩ = some (.int .u64 (old : Nat)) ∧ w.frozen? ⟨g1, tof * 512 + e, none⟩ = false ∧ g ≠ g1 ∧ B ≤ g1 ∧ (∃ cur, Blk w g1 24 cur) ∧
    Hid (∀ wm x, Below w.heap.size w wm → x < 18446744073709551616 → Bd (wm.setCell ⟨g1, tof * 512 + e, none⟩ (.int .u64 (x : Nat))) B g base { s with all := Pg.setE s.all tof e x } ∧ Far w (wm.setCell ⟨g1, tof * 512 + e, none⟩ (.int .u64 (x : Nat)))) := by
  obtain ⟨g1, c1, hr, ho, htab⟩ := h
  have hl := htab.len
  have hlt := (ho.lt g1 rfl)
  obtain ⟨_, _, _, _, hcc, hcm⟩ := own_some ho (by omega)
  have hne : g ≠ g1 := fun e => own_blk_ne (cs := (bcells base s.mid s.low s.virt s.all.length c1 (some ⟨g1, 0, none⟩)).toArray) ho hr (by decide) (by rw [e]; rfl)
  have hc := hr.cell 1
  simp only [bcells, List.getElem?_cons_zero, List.getElem?_cons_succ] at hc
  obtain ⟨cur, hblk⟩ := own_blk' ho g1 rfl
  refine ⟨g1, c1, (s.all.getD tof []).getD e 0, hc, hcc, by unfold maxLen at hcm; exact hcm, hlt.2, ?_, ho.frozenAt _, hne, hlt.1, ⟨cur, hblk⟩, Lib.hid fun wm x hb hx => ?_⟩
  · rw [show tof * 512 + e = 512 * tof + e by omega, ho.cellAt (512 * tof + e) (by omega), tcells_at htab ht he]
    rfl
  · have hown5 := owns_below ho hb
    have hst := hown5.stored (512 * tof + e) (u64v x)
    rw [tcells_set htab ht he, show 512 * tof + e = tof * 512 + e by omega] at hst
    refine ⟨⟨g1, c1, ?_, ?_, htab.setE tof e x hx⟩, (Far.below hb).trans (Far.set_ (hblk.below hb hlt.2) (.inr rfl) _ _)⟩
    · show Row _ g _ (bcells base s.mid s.low s.virt (Pg.setE s.all tof e x).length c1 _)
      rw [Pg.setE_len]
      exact (hr.below hb hr.lt).far (p := ⟨g1, tof * 512 + e, none⟩) hne _
    · show World.ownsRow _ B _ 512 (.slice _ (Pg.setE s.all tof e x).length c1) (Pg.setE s.all tof e x).length (tcells (Pg.setE s.all tof e x))
      rw [Pg.setE_len]
      exact hst.1
end
set_option maxRecDepth 100000 in
set_option maxHeartbeats 1000000 in
theorem page_any (B g base : Nat) (s : Pg.St) (r : Pg.Lf) (q : Pg.Pge) (w : World) (hb : Bd w B g base s) (hB : B ≤ g) (hBw : B ≤ w.heap.size) (hq : q.Ok) (hqr : q.b = r.b ∧ q.w = r.w ∧ q.x = r.x) (hn0 : 0 < s.all.length) (hn : s.all.length ≤ 1500) (hmid : s.mid < s.all.length) (hlow : s.low < s.all.length) (hvirt : s.virt < 549755813888) (hbase : base % 4096 = 0) (hbl : base < 4294967296) :
    Calls Try.prog 67 #[.pointer (some ⟨g, 0, none⟩), .int .u64 (q.v : Nat), .int .u64 (q.p : Nat), lfV r] w fun en w' => en = .returned (.tuple #[]) ∧ Bd w' B g base (Pg.step base s q) ∧ Below B w w' ∧ Far w w' := by
  obtain ⟨v, p, qb, qw, qx⟩ := q
  obtain ⟨rv, rp, rn, rb, rw', rx⟩ := r
  obtain ⟨rfl, rfl, rfl⟩ : qb = rb ∧ qw = rw' ∧ qx = rx := hqr
  have hvl : v < 549755813888 := hq.lt.1
  have hpl : p < 4294967296 := hq.lt.2
  unfold lfV
  obtain ⟨ga, c, hrow, hown, htab⟩ := hb
  have HROW := Lib.hid hrow; have HOWN := Lib.hid hown; have HTAB := Lib.hid htab; have HQ := Lib.hid hq
  have c2 := hrow.cell 2
  have c4 := hrow.cell 4
  simp only [bcells, List.getElem?_cons_zero, List.getElem?_cons_succ] at c2 c4
  have hlt := hrow.lt
  clear hrow hown htab hq
  go_enter Try.func67, Try.ntmps67
  go_upto_region 1 with fail
  obtain ⟨T, hT⟩ : ∃ T : Bool, T = decide (s.mid = 0 ∨ v / 1073741824 ≠ s.virt / 1073741824) := ⟨_, rfl⟩
  have key : (s.mid = 0 ∧ T = true) ∨ (s.mid ≠ 0 ∧ (((v : Int) / 1073741824) != ((s.virt : Int) / 1073741824)) = T) := by
    by_cases h : s.mid = 0
    · exact .inl ⟨h, by rw [hT, decide_eq_true (.inl h)]⟩
    · refine .inr ⟨h, ?_⟩
      rw [hT, Bool.eq_iff_iff, bne_iff_ne, decide_eq_true_iff]
      omega
  have HT := Lib.hid hT
  clear hT
  go_cut [23] (fun x wx => x = .bool T ∧ wx = w.alloc (.cells #[.int .u64 (rv : Nat), .int .u64 (rp : Nat), .int .i64 rn, .bool qb, .bool qw, .bool qx] 47))
  case first =>
    rcases key with ⟨k1, rfl⟩ | ⟨k1, k2⟩
    · have k3 : ((s.mid : Int) == 0) = true := by rw [beq_iff_eq]; omega
      go_wp2_with fail
      go_meet
      case rel => exact ⟨rfl, rfl⟩
    · have k3 : ((s.mid : Int) == 0) = false := by rw [beq_eq_false_iff_ne]; omega
      have K1 := Lib.hid k1
      clear k1
      go_wp2_with fail
      go_meet
      case rel => exact ⟨rfl, rfl⟩
  case rest =>
    obtain ⟨rfl, rfl⟩ := hcut
    clear key c2 c4
    have hrow0 := Row.new w 47 [.int .u64 (rv : Nat), .int .u64 (rp : Nat), .int .i64 rn, .bool qb, .bool qw, .bool qx]
    have hfa0 : Far w (w.alloc (.cells #[.int .u64 (rv : Nat), .int .u64 (rp : Nat), .int .i64 rn, .bool qb, .bool qw, .bool qx] 47)) := Far.below ((Below.refl _ _).alloc (Nat.le_refl _) _)
    have hba0 : Below B w (w.alloc (.cells #[.int .u64 (rv : Nat), .int .u64 (rp : Nat), .int .i64 rn, .bool qb, .bool qw, .bool qx] 47)) := (Below.refl B w).alloc hBw _
    have HBD : Hid (Bd (w.alloc (.cells #[.int .u64 (rv : Nat), .int .u64 (rp : Nat), .int .i64 rn, .bool qb, .bool qw, .bool qx] 47)) B g base s) := Lib.hid ⟨ga, c, HROW.out.alloc _, HOWN.out.alloc _, HTAB.out⟩
    obtain ⟨w0, hw0⟩ : ∃ w0, w0 = w.alloc (.cells #[.int .u64 (rv : Nat), .int .u64 (rp : Nat), .int .i64 rn, .bool qb, .bool qw, .bool qx] 47) := ⟨_, rfl⟩
    have hsz0 : w0.heap.size = w.heap.size + 1 := by rw [hw0]; simp
    rw [← hw0] at hrow0 hba0 hfa0 HBD ⊢
    have HW0 := Lib.hid hw0
    have hs0 : w.heap.size < w0.heap.size := by omega
    obtain ⟨gx, hgx⟩ : ∃ gx, gx = w.heap.size := ⟨_, rfl⟩
    rw [← hgx] at hrow0 ⊢
    have HR0 := Lib.hid hrow0
    have HB0 := Lib.hid hba0
    have HFA0 := Lib.hid hfa0
    have HV := Lib.hid (show v / 1073741824 < 512 by omega)
    have hlt0 := HBD.out.lt
    clear hw0 hrow0 hba0 hfa0 HROW HOWN HTAB hlt hgx hsz0
    go_upto_if 23 with fail
    go_cut [] (fun wx => Hid (Opened w wx B g base gx [.int .u64 (rv : Nat), .int .u64 (rp : Nat), .int .i64 rn, .bool qb, .bool qw, .bool qx] (Pg.openMid base s v)))
    case first =>
      cases hTT : T with
      | true =>
        have hop : Pg.openMid base s v = ⟨Pg.childE base s.all 0 (v / 1073741824), s.all.length, 0, s.virt⟩ := by
          unfold Pg.openMid
          rw [if_pos (of_decide_eq_true (by rw [← HT.out, hTT]))]
        have HOP := Lib.hid hop
        have hch := child_any B g base s 0 (v / 1073741824) w0 HBD.out hB (by omega) hn0 HV.out (by omega) hbase hbl
        rw [show ((v / 1073741824 : Nat) : Int) = (v : Int) / 1073741824 by omega] at hch
        have HCH := Lib.hid hch
        clear hop hch
        go_wp2_with fail
        refine HCH.out.mono ?_
        rintro en w2 ⟨rfl, hbd, hbe, hfar⟩
        have HBD2 := Lib.hid hbd
        have HBE := Lib.hid hbe
        have HRX := Lib.hid (hfar gx _ _ (by decide) (by decide) HR0.out)
        have HFA := Lib.hid hfar
        have hxg : gx ≠ g := fun e => HBD2.out.row_ne HRX.out (by decide) e.symm
        clear hfar
        obtain ⟨ga2, c2', hr2, _, _⟩ := hbd
        have d2 := hr2.cell 2
        have d3 := hr2.cell 3
        have f2 := hr2.frozen 2
        have f3 := hr2.frozen 3
        have hl2 := hr2.lt
        simp only [bcells, List.getElem?_cons_zero, List.getElem?_cons_succ] at d2 d3
        clear hr2 hbe
        go_wp2_with fail
        go_meet
        case rel =>
          refine Lib.hid ⟨?_, ?_, ?_, ?_⟩
          · rw [HOP.out]
            exact (HBD2.out.set2 s.all.length).set3 0
          · exact (HRX.out.far (p := ⟨g, 2, none⟩) hxg _).far (p := ⟨g, 3, none⟩) hxg _
          · exact ((HB0.out.trans HBE.out).setCell (p := ⟨g, 2, none⟩) hB _).setCell (p := ⟨g, 3, none⟩) hB _
          · exact ((HFA0.out.trans HFA.out).trans (far_set1 HBD2.out 2 _)).trans (far_set1 (HBD2.out.set2 s.all.length) 3 _)
      | false =>
        have hop : Pg.openMid base s v = s := by
          unfold Pg.openMid
          rw [if_neg (of_decide_eq_false (by rw [← HT.out, hTT]))]
        have HOP := Lib.hid hop
        clear hop
        go_wp2_with fail
        go_meet
        case rel => exact Lib.hid ⟨by rw [HOP.out]; exact HBD.out, HR0.out, HB0.out, HFA0.out⟩
    case rest =>
      clear HB0 HR0 HBD HW0 HT HFA0
      have HOPN := hcut
      clear hcut
      have hmi := openMid_in base s v hmid hlow
      have hln := openMid_len base s v
      obtain ⟨s1, hs1⟩ : ∃ s1, s1 = Pg.openMid base s v := ⟨_, rfl⟩
      rw [← hs1] at HOPN hmi hln
      have HS1 := Lib.hid hs1
      obtain ⟨hm1, hl1, hv1⟩ := hmi
      have hn1 : s1.all.length ≤ 1501 := by omega
      have hv1' : s1.virt < 549755813888 := by rw [hv1]; exact hvirt
      have HMID : Hid (s1.mid < s1.all.length) := Lib.hid hm1
      have HLOW : Hid (s1.low < s1.all.length) := Lib.hid hl1
      clear hs1 hm1 hl1 hv1 hln hvirt hmid hlow hn0 hn
      have r3 := HOPN.out.2.1.cell 3
      have r4 := HOPN.out.2.1.cell 4
      have r5 := HOPN.out.2.1.cell 5
      simp only [List.getElem?_cons_zero, List.getElem?_cons_succ] at r3 r4 r5
      have hgl := HOPN.out.1.lt
      have hxl := HOPN.out.2.1.lt
      cases hqb : qb with
      | true =>
        subst hqb
        have hmk := make_walk ⟨p, false, true, qw, qx⟩ 1 (wc.alloc (.cells #[.int .u64 (p : Nat), .bool false, .bool true, .bool qw, .bool qx] 100)).drew (by show p < _; omega) (by omega)
        rw [Pg.make_big HQ.out rfl] at hmk
        have HMK := Lib.hid hmk
        clear hmk
        have hbl2 : Below wc.heap.size wc (wc.alloc (.cells #[.int .u64 (p : Nat), .bool false, .bool true, .bool qw, .bool qx] 100)) := (Below.refl _ _).alloc (Nat.le_refl _) _
        have hbd := HOPN.out.1.below hbl2
        have hre := Row.new wc 100 [.int .u64 (p : Nat), .bool false, .bool true, .bool qw, .bool qx]
        obtain ⟨gb, hgb⟩ : ∃ gb, gb = wc.heap.size := ⟨_, rfl⟩
        rw [← hgb] at hre
        obtain ⟨wl, hwl⟩ : ∃ wl, wl = wc.alloc (.cells #[.int .u64 (p : Nat), .bool false, .bool true, .bool qw, .bool qx] 100) := ⟨_, rfl⟩
        have HBL : Hid (Below B w wl) := Lib.hid (by rw [hwl]; exact HOPN.out.2.2.1.trans (hbl2.mono (Nat.le_trans hBw HOPN.out.2.2.1.size)))
        have HFL : Hid (Far w wl) := Lib.hid (by rw [hwl]; exact HOPN.out.2.2.2.trans (Far.below hbl2))
        have hre : Row wl gb 100 [.int .u64 (p : Nat), .bool false, .bool true, .bool qw, .bool qx] := by rw [hwl]; exact hre
        rw [← hwl] at hbd HMK
        obtain ⟨g1, c1, old, a1, hcc, hcm, hg1, a2, a3, hne, hB1, ⟨cur, hblk⟩, HST⟩ := hbd.store (tof := s1.mid) (e := v / 2097152 % 512) HMID.out (by omega)
        have hne2 : gb ≠ g1 := Blk.ne_ (cs := ([.int .u64 (p : Nat), .bool false, .bool true, .bool qw, .bool qx] : List Value).toArray) hre hblk (by decide)
        have hne3 := hbd.row_ne hre (by decide)
        have b0 := hre.cell 0
        have b1 := hre.cell 1
        have b2 := hre.cell 2
        have b3 := hre.cell 3
        have b4 := hre.cell 4
        simp only [List.getElem?_cons_zero, List.getElem?_cons_succ] at b0 b1 b2 b3 b4
        have hgbl := hre.lt
        have HBD := Lib.hid hbd
        obtain ⟨ga1, ca1, hr1, _, _⟩ := hbd
        have a4 := hr1.cell 2
        simp only [bcells, List.getElem?_cons_zero, List.getElem?_cons_succ] at a4
        have hgl2 := hr1.lt
        have hm0 : (0 : Int) ≤ (s1.mid : Int) := by omega
        have hmn : (s1.mid : Int) < (s1.all.length : Int) := by have := HMID.out; omega
        have hes : ((v : Int) / 2097152).tmod 512 = ((v / 2097152 % 512 : Nat) : Int) := by rw [Int.tmod_eq_emod_of_nonneg (by omega)]; omega
        have hes2 : ((v : Int) / 2097152) % 512 = ((v / 2097152 % 512 : Nat) : Int) := by omega
        obtain ⟨E, hE⟩ : ∃ E, E = v / 2097152 % 512 := ⟨_, rfl⟩
        have hE0 : (0 : Int) ≤ (E : Int) := by omega
        have hE5 : (E : Int) < 512 := by omega
        rw [← hE] at hes hes2 a2 a3 HST
        have HEE := Lib.hid hE
        have KEEP : Hid (∀ (w' : World) (u : Value), (w'.cell? ⟨g, 1, none⟩ = some (.slice (some ⟨g1, 0, none⟩) s1.all.length c1) ∧ w'.cell? ⟨g, 2, none⟩ = some (.int .i64 (s1.mid : Nat)) ∧ w'.cell? ⟨gb, 0, none⟩ = some (.int .u64 (p : Nat)) ∧ w'.cell? ⟨gb, 1, none⟩ = some (.bool false) ∧ w'.cell? ⟨gb, 2, none⟩ = some (.bool true) ∧ w'.cell? ⟨gb, 3, none⟩ = some (.bool qw) ∧ w'.cell? ⟨gb, 4, none⟩ = some (.bool qx)) →
            ((w'.setCell ⟨g1, s1.mid * 512 + E, none⟩ u).cell? ⟨g, 1, none⟩ = some (.slice (some ⟨g1, 0, none⟩) s1.all.length c1) ∧ (w'.setCell ⟨g1, s1.mid * 512 + E, none⟩ u).cell? ⟨g, 2, none⟩ = some (.int .i64 (s1.mid : Nat)) ∧ (w'.setCell ⟨g1, s1.mid * 512 + E, none⟩ u).cell? ⟨gb, 0, none⟩ = some (.int .u64 (p : Nat)) ∧ (w'.setCell ⟨g1, s1.mid * 512 + E, none⟩ u).cell? ⟨gb, 1, none⟩ = some (.bool false) ∧ (w'.setCell ⟨g1, s1.mid * 512 + E, none⟩ u).cell? ⟨gb, 2, none⟩ = some (.bool true) ∧ (w'.setCell ⟨g1, s1.mid * 512 + E, none⟩ u).cell? ⟨gb, 3, none⟩ = some (.bool qw) ∧ (w'.setCell ⟨g1, s1.mid * 512 + E, none⟩ u).cell? ⟨gb, 4, none⟩ = some (.bool qx))) := Lib.hid (by
          rintro w' u ⟨k1, k2, k3, k4, k5, k6, k7⟩
          refine ⟨(World.cell?_setCell_other _ _ _ _ (by simp [hne])).trans k1, (World.cell?_setCell_other _ _ _ _ (by simp [hne])).trans k2, (World.cell?_setCell_other _ _ _ _ (by simp [hne2])).trans k3, (World.cell?_setCell_other _ _ _ _ (by simp [hne2])).trans k4, (World.cell?_setCell_other _ _ _ _ (by simp [hne2])).trans k5, (World.cell?_setCell_other _ _ _ _ (by simp [hne2])).trans k6, (World.cell?_setCell_other _ _ _ _ (by simp [hne2])).trans k7⟩)
        have HNUM : Hid (Pg.Pge.num ⟨v, p, true, qw, qx⟩ < 18446744073709551616) := Lib.hid (Pg.num_lt HQ.out)
        clear hbl2 hblk hr1 hre hE
        go_upto_region 5 with fail
        rw [← hgb, ← hwl]
        clear hgb hwl r3 r4 r5
        go_cut [] (fun wx => Hid (∃ wm, Below wl.heap.size wl wm ∧ wx = wm.setCell ⟨g1, s1.mid * 512 + E, none⟩ (.int .u64 (Pg.Pge.num ⟨v, p, true, qw, qx⟩ : Nat))))
        case first =>
          go_region_held3 (fun w' => w'.cell? ⟨g, 1, none⟩ = some (.slice (some ⟨g1, 0, none⟩) s1.all.length c1) ∧ w'.cell? ⟨g, 2, none⟩ = some (.int .i64 (s1.mid : Nat)) ∧ w'.cell? ⟨gb, 0, none⟩ = some (.int .u64 (p : Nat)) ∧ w'.cell? ⟨gb, 1, none⟩ = some (.bool false) ∧ w'.cell? ⟨gb, 2, none⟩ = some (.bool true) ∧ w'.cell? ⟨gb, 3, none⟩ = some (.bool qw) ∧ w'.cell? ⟨gb, 4, none⟩ = some (.bool qx))
            (first | exact ⟨a1, a4, b0, b1, b2, b3, b4⟩ | exact DD | exact KEEP.out _ _ (by assumption))
            (first | (go_at_call 86; refine HMK.out.mono ?_; rintro en w' ⟨rfl, hbm⟩; have DD : w'.cell? ⟨g, 1, none⟩ = some (.slice (some ⟨g1, 0, none⟩) s1.all.length c1) ∧ w'.cell? ⟨g, 2, none⟩ = some (.int .i64 (s1.mid : Nat)) ∧ w'.cell? ⟨gb, 0, none⟩ = some (.int .u64 (p : Nat)) ∧ w'.cell? ⟨gb, 1, none⟩ = some (.bool false) ∧ w'.cell? ⟨gb, 2, none⟩ = some (.bool true) ∧ w'.cell? ⟨gb, 3, none⟩ = some (.bool qw) ∧ w'.cell? ⟨gb, 4, none⟩ = some (.bool qx) := ⟨(hbm.cell (p := ⟨g, 1, none⟩) hgl2).trans a1, (hbm.cell (p := ⟨g, 2, none⟩) hgl2).trans a4, (hbm.cell (p := ⟨gb, 0, none⟩) hgbl).trans b0, (hbm.cell (p := ⟨gb, 1, none⟩) hgbl).trans b1, (hbm.cell (p := ⟨gb, 2, none⟩) hgbl).trans b2, (hbm.cell (p := ⟨gb, 3, none⟩) hgbl).trans b3, (hbm.cell (p := ⟨gb, 4, none⟩) hgbl).trans b4⟩; have d1 := (hbm.cell (p := ⟨g1, s1.mid * 512 + E, none⟩) hg1).trans a2; have d2 := (hbm.frozen (p := ⟨g1, s1.mid * 512 + E, none⟩) hg1).trans a3; have hls := hbm.size; have HBM := Lib.hid hbm; clear hbm))
          all_goals
            go_wp2_with fail
            go_meet
            case rel => exact Lib.hid ⟨_, ((Below.refl wl.heap.size wl).drew).trans HBM.out, rfl⟩
        case rest =>
          obtain ⟨wm, hbm, rfl⟩ := hcut.out
          have HBD5 := Lib.hid (HST.out wm _ hbm HNUM.out)
          have hbb : Below B w (wm.setCell ⟨g1, s1.mid * 512 + E, none⟩ (.int .u64 (Pg.Pge.num ⟨v, p, true, qw, qx⟩ : Nat))) := (HBL.out.trans (hbm.mono (Nat.le_trans hBw HBL.out.size))).setCell (p := ⟨g1, s1.mid * 512 + E, none⟩) hB1 _
          have HBB := Lib.hid hbb
          have HFF : Hid (Far w (wm.setCell ⟨g1, s1.mid * 512 + E, none⟩ (.int .u64 (Pg.Pge.num ⟨v, p, true, qw, qx⟩ : Nat)))) := Lib.hid (HFL.out.trans HBD5.out.2)
          clear hbb hbm hcut a1 a2 a3 a4 b0 b1 b2 b3 b4 KEEP HMK
          generalize wm.setCell ⟨g1, s1.mid * 512 + E, none⟩ (.int .u64 (Pg.Pge.num ⟨v, p, true, qw, qx⟩ : Nat)) = w5 at *
          obtain ⟨ga5, ca5, hr5, _, _⟩ := HBD5.out.1
          have d3 := hr5.cell 3
          have d4 := hr5.cell 4
          have f3 := hr5.frozen 3
          have f4 := hr5.frozen 4
          have hl5 := hr5.lt
          simp only [bcells, List.getElem?_cons_zero, List.getElem?_cons_succ] at d3 d4
          clear hr5
          go_wp2_with fail
          refine bodyPost_ret (results_none rfl _ _ _) rfl ?_
          refine ⟨rfl, ?_, (HBB.out.setCell (p := ⟨g, 4, none⟩) hB _).setCell (p := ⟨g, 3, none⟩) hB _, HFF.out.trans (far_set2 HBD5.out.1 v 0)⟩
          have hstep : Pg.step base s ⟨v, p, true, qw, qx⟩ = ⟨Pg.setE s1.all s1.mid (v / 2097152 % 512) (Pg.Pge.num ⟨v, p, true, qw, qx⟩), s1.mid, 0, v⟩ := by
            unfold Pg.step
            rw [HS1.out]
            rfl
          rw [hstep]
          have := (HBD5.out.1.set4 v).set3 0
          rw [HEE.out] at this
          exact this
      | false =>
        subst hqb
        have hbl2 : Below wc.heap.size wc (wc.alloc (.cells #[.int .u64 (p : Nat), .bool false, .bool false, .bool qw, .bool qx] 100)) := (Below.refl _ _).alloc (Nat.le_refl _) _
        have hbd := HOPN.out.1.below hbl2
        have hre := Row.new wc 100 [.int .u64 (p : Nat), .bool false, .bool false, .bool qw, .bool qx]
        obtain ⟨gb, hgb⟩ : ∃ gb, gb = wc.heap.size := ⟨_, rfl⟩
        rw [← hgb] at hre
        obtain ⟨wl, hwl⟩ : ∃ wl, wl = wc.alloc (.cells #[.int .u64 (p : Nat), .bool false, .bool false, .bool qw, .bool qx] 100) := ⟨_, rfl⟩
        have HBL : Hid (Below B w wl) := Lib.hid (by rw [hwl]; exact HOPN.out.2.2.1.trans (hbl2.mono (Nat.le_trans hBw HOPN.out.2.2.1.size)))
        have HFL : Hid (Far w wl) := Lib.hid (by rw [hwl]; exact HOPN.out.2.2.2.trans (Far.below hbl2))
        have hre : Row wl gb 100 [.int .u64 (p : Nat), .bool false, .bool false, .bool qw, .bool qx] := by rw [hwl]; exact hre
        rw [← hwl] at hbd
        have HBD := Lib.hid hbd
        have HRE := Lib.hid hre
        have hszl : w.heap.size ≤ wl.heap.size := HBL.out.size
        have hgl2 := hbd.lt
        obtain ⟨ga1, ca1, hr1, _, _⟩ := hbd
        have a3 := hr1.cell 3
        have a4 := hr1.cell 4
        simp only [bcells, List.getElem?_cons_zero, List.getElem?_cons_succ] at a3 a4
        obtain ⟨T2, hT2⟩ : ∃ T : Bool, T = decide (s1.low = 0 ∨ v / 2097152 ≠ s1.virt / 2097152) := ⟨_, rfl⟩
        have key : (s1.low = 0 ∧ T2 = true) ∨ (s1.low ≠ 0 ∧ (((v : Int) / 2097152) != ((s1.virt : Int) / 2097152)) = T2) := by
          by_cases h : s1.low = 0
          · exact .inl ⟨h, by rw [hT2, decide_eq_true (.inl h)]⟩
          · refine .inr ⟨h, ?_⟩
            rw [hT2, Bool.eq_iff_iff, bne_iff_ne, decide_eq_true_iff]
            omega
        have HT2 := Lib.hid hT2
        clear hT2 hre hbl2 hr1
        go_upto_region 7 with fail
        rw [← hgb, ← hwl]
        have HGB := Lib.hid hgb
        have HWL := Lib.hid hwl
        clear hgb hwl r3 r4 r5
        go_cut [83] (fun x wx => x = .bool T2 ∧ wx = wl)
        case first =>
          rcases key with ⟨k1, rfl⟩ | ⟨k1, k2⟩
          · have k3 : ((s1.low : Int) == 0) = true := by rw [beq_iff_eq]; omega
            go_wp2_with fail
            go_meet
            case rel => exact ⟨rfl, rfl⟩
          · have k3 : ((s1.low : Int) == 0) = false := by rw [beq_eq_false_iff_ne]; omega
            have K1 := Lib.hid k1
            clear k1
            go_wp2_with fail
            go_meet
            case rel => exact ⟨rfl, rfl⟩
        case rest =>
          obtain ⟨rfl, hwx⟩ := hcut
          rw [hwx]
          clear hwx key a3 a4
          obtain ⟨ga1, ca1, hr1, _, _⟩ := HBD.out
          have a2 := hr1.cell 2
          simp only [bcells, List.getElem?_cons_zero, List.getElem?_cons_succ] at a2
          clear hr1
          go_upto_if 83 with fail
          go_cut [] (fun wx => Hid (OpenedE wl wx B g base gb [.int .u64 (p : Nat), .bool false, .bool false, .bool qw, .bool qx] (Pg.openLow base s1 v)))
          case first =>
            cases hTT : T2 with
            | true =>
              have hop : Pg.openLow base s1 v = ⟨Pg.childE base s1.all s1.mid (v / 2097152 % 512), s1.mid, s1.all.length, s1.virt⟩ := by
                unfold Pg.openLow
                rw [if_pos (of_decide_eq_true (by rw [← HT2.out, hTT]))]
              have HOP := Lib.hid hop
              have hes : ((v : Int) / 2097152).tmod 512 = ((v / 2097152 % 512 : Nat) : Int) := by rw [Int.tmod_eq_emod_of_nonneg (by omega)]; omega
              have hes2 : ((v : Int) / 2097152) % 512 = ((v / 2097152 % 512 : Nat) : Int) := by omega
              obtain ⟨E, hE⟩ : ∃ E, E = v / 2097152 % 512 := ⟨_, rfl⟩
              have hE5 : E < 512 := by omega
              rw [← hE] at hes hes2
              have hch := child_any B g base s1 s1.mid E wl HBD.out hB (by omega) HMID.out hE5 (by omega) hbase hbl
              have HCH := Lib.hid hch
              have HEE := Lib.hid hE
              clear hop hch hE
              go_wp2_with fail
              refine HCH.out.mono ?_
              rintro en w2 ⟨rfl, hbd, hbe, hfar⟩
              have HBD2 := Lib.hid hbd
              have HBE := Lib.hid hbe
              have HRX := Lib.hid (hfar gb _ _ (by decide) (by decide) HRE.out)
              have HFA := Lib.hid hfar
              have hxg : gb ≠ g := fun e => HBD2.out.row_ne HRX.out (by decide) e.symm
              clear hfar
              obtain ⟨ga2, c2', hr2, _, _⟩ := hbd
              have d3 := hr2.cell 3
              have f3 := hr2.frozen 3
              have hl2 := hr2.lt
              simp only [bcells, List.getElem?_cons_zero, List.getElem?_cons_succ] at d3
              clear hr2 hbe
              go_wp2_with fail
              go_meet
              case rel =>
                refine Lib.hid ⟨?_, ?_, ?_, HFA.out.trans (far_set1 HBD2.out 3 _)⟩
                · rw [HOP.out, ← HEE.out]
                  exact HBD2.out.set3 s1.all.length
                · exact HRX.out.far (p := ⟨g, 3, none⟩) hxg _
                · exact HBE.out.setCell (p := ⟨g, 3, none⟩) hB _
            | false =>
              have hop : Pg.openLow base s1 v = s1 := by
                unfold Pg.openLow
                rw [if_neg (of_decide_eq_false (by rw [← HT2.out, hTT]))]
              have HOP := Lib.hid hop
              clear hop
              go_wp2_with fail
              go_meet
              case rel => exact Lib.hid ⟨by rw [HOP.out]; exact HBD.out, HRE.out, Below.refl _ _, Far.refl _⟩
          case rest =>
            have HOP2 := hcut
            clear hcut
            have hli := openLow_in base s1 v HMID.out HLOW.out
            obtain ⟨s2, hs2⟩ : ∃ s2, s2 = Pg.openLow base s1 v := ⟨_, rfl⟩
            rw [← hs2] at HOP2 hli
            have HS2 := Lib.hid hs2
            obtain ⟨hl2, hm2, hv2⟩ := hli
            have HLOW2 : Hid (s2.low < s2.all.length) := Lib.hid hl2
            clear hs2 hl2 hm2 hv2 HBD HRE HT2 hgl2 a2
            have hmk := make_walk ⟨p, false, false, qw, qx⟩ 2 wc.drew (by show p < _; omega) (by omega)
            rw [Pg.make_small HQ.out rfl] at hmk
            have HMK := Lib.hid hmk
            clear hmk
            have hbd := HOP2.out.1
            have hre := HOP2.out.2.1
            have HBL2 : Hid (Below B w wc) := Lib.hid (HBL.out.trans HOP2.out.2.2.1)
            have HFL2 : Hid (Far w wc) := Lib.hid (HFL.out.trans HOP2.out.2.2.2)
            obtain ⟨g1, c1, old, a1, hcc, hcm, hg1, a2, a3, hne, hB1, ⟨cur, hblk⟩, HST⟩ := hbd.store (tof := s2.low) (e := v / 4096 % 512) HLOW2.out (by omega)
            have hne2 : gb ≠ g1 := Blk.ne_ (cs := ([.int .u64 (p : Nat), .bool false, .bool false, .bool qw, .bool qx] : List Value).toArray) hre hblk (by decide)
            have hne3 := hbd.row_ne hre (by decide)
            have b0 := hre.cell 0
            have b1 := hre.cell 1
            have b2 := hre.cell 2
            have b3 := hre.cell 3
            have b4 := hre.cell 4
            simp only [List.getElem?_cons_zero, List.getElem?_cons_succ] at b0 b1 b2 b3 b4
            have hgbl := hre.lt
            have HBD := Lib.hid hbd
            obtain ⟨ga1, ca1, hr1, _, _⟩ := hbd
            have a4 := hr1.cell 3
            simp only [bcells, List.getElem?_cons_zero, List.getElem?_cons_succ] at a4
            have hgl2 := hr1.lt
            have hm0 : (0 : Int) ≤ (s2.low : Int) := by omega
            have hmn : (s2.low : Int) < (s2.all.length : Int) := by have := HLOW2.out; omega
            have hes : ((v : Int) / 4096).tmod 512 = ((v / 4096 % 512 : Nat) : Int) := by rw [Int.tmod_eq_emod_of_nonneg (by omega)]; omega
            have hes2 : ((v : Int) / 4096) % 512 = ((v / 4096 % 512 : Nat) : Int) := by omega
            obtain ⟨E, hE⟩ : ∃ E, E = v / 4096 % 512 := ⟨_, rfl⟩
            have hE0 : (0 : Int) ≤ (E : Int) := by omega
            have hE5 : (E : Int) < 512 := by omega
            rw [← hE] at hes hes2 a2 a3 HST
            have HEE := Lib.hid hE
            have KEEP : Hid (∀ (w' : World) (u : Value), (w'.cell? ⟨g, 1, none⟩ = some (.slice (some ⟨g1, 0, none⟩) s2.all.length c1) ∧ w'.cell? ⟨g, 3, none⟩ = some (.int .i64 (s2.low : Nat)) ∧ w'.cell? ⟨gb, 0, none⟩ = some (.int .u64 (p : Nat)) ∧ w'.cell? ⟨gb, 1, none⟩ = some (.bool false) ∧ w'.cell? ⟨gb, 2, none⟩ = some (.bool false) ∧ w'.cell? ⟨gb, 3, none⟩ = some (.bool qw) ∧ w'.cell? ⟨gb, 4, none⟩ = some (.bool qx)) →
                ((w'.setCell ⟨g1, s2.low * 512 + E, none⟩ u).cell? ⟨g, 1, none⟩ = some (.slice (some ⟨g1, 0, none⟩) s2.all.length c1) ∧ (w'.setCell ⟨g1, s2.low * 512 + E, none⟩ u).cell? ⟨g, 3, none⟩ = some (.int .i64 (s2.low : Nat)) ∧ (w'.setCell ⟨g1, s2.low * 512 + E, none⟩ u).cell? ⟨gb, 0, none⟩ = some (.int .u64 (p : Nat)) ∧ (w'.setCell ⟨g1, s2.low * 512 + E, none⟩ u).cell? ⟨gb, 1, none⟩ = some (.bool false) ∧ (w'.setCell ⟨g1, s2.low * 512 + E, none⟩ u).cell? ⟨gb, 2, none⟩ = some (.bool false) ∧ (w'.setCell ⟨g1, s2.low * 512 + E, none⟩ u).cell? ⟨gb, 3, none⟩ = some (.bool qw) ∧ (w'.setCell ⟨g1, s2.low * 512 + E, none⟩ u).cell? ⟨gb, 4, none⟩ = some (.bool qx))) := Lib.hid (by
              rintro w' u ⟨k1, k2, k3, k4, k5, k6, k7⟩
              refine ⟨(World.cell?_setCell_other _ _ _ _ (by simp [hne])).trans k1, (World.cell?_setCell_other _ _ _ _ (by simp [hne])).trans k2, (World.cell?_setCell_other _ _ _ _ (by simp [hne2])).trans k3, (World.cell?_setCell_other _ _ _ _ (by simp [hne2])).trans k4, (World.cell?_setCell_other _ _ _ _ (by simp [hne2])).trans k5, (World.cell?_setCell_other _ _ _ _ (by simp [hne2])).trans k6, (World.cell?_setCell_other _ _ _ _ (by simp [hne2])).trans k7⟩)
            have HNUM : Hid (Pg.Pge.num ⟨v, p, false, qw, qx⟩ < 18446744073709551616) := Lib.hid (Pg.num_lt HQ.out)
            clear hblk hr1 hre hE
            go_upto_region 9 with fail
            go_cut [] (fun wx => Hid (∃ wm, Below wc.heap.size wc wm ∧ wx = wm.setCell ⟨g1, s2.low * 512 + E, none⟩ (.int .u64 (Pg.Pge.num ⟨v, p, false, qw, qx⟩ : Nat))))
            case first =>
              go_region_held3 (fun w' => w'.cell? ⟨g, 1, none⟩ = some (.slice (some ⟨g1, 0, none⟩) s2.all.length c1) ∧ w'.cell? ⟨g, 3, none⟩ = some (.int .i64 (s2.low : Nat)) ∧ w'.cell? ⟨gb, 0, none⟩ = some (.int .u64 (p : Nat)) ∧ w'.cell? ⟨gb, 1, none⟩ = some (.bool false) ∧ w'.cell? ⟨gb, 2, none⟩ = some (.bool false) ∧ w'.cell? ⟨gb, 3, none⟩ = some (.bool qw) ∧ w'.cell? ⟨gb, 4, none⟩ = some (.bool qx))
                (first | exact ⟨a1, a4, b0, b1, b2, b3, b4⟩ | exact DD | exact KEEP.out _ _ (by assumption))
                (first | (go_at_call 86; refine HMK.out.mono ?_; rintro en w' ⟨rfl, hbm⟩; have DD : w'.cell? ⟨g, 1, none⟩ = some (.slice (some ⟨g1, 0, none⟩) s2.all.length c1) ∧ w'.cell? ⟨g, 3, none⟩ = some (.int .i64 (s2.low : Nat)) ∧ w'.cell? ⟨gb, 0, none⟩ = some (.int .u64 (p : Nat)) ∧ w'.cell? ⟨gb, 1, none⟩ = some (.bool false) ∧ w'.cell? ⟨gb, 2, none⟩ = some (.bool false) ∧ w'.cell? ⟨gb, 3, none⟩ = some (.bool qw) ∧ w'.cell? ⟨gb, 4, none⟩ = some (.bool qx) := ⟨(hbm.cell (p := ⟨g, 1, none⟩) hgl2).trans a1, (hbm.cell (p := ⟨g, 3, none⟩) hgl2).trans a4, (hbm.cell (p := ⟨gb, 0, none⟩) hgbl).trans b0, (hbm.cell (p := ⟨gb, 1, none⟩) hgbl).trans b1, (hbm.cell (p := ⟨gb, 2, none⟩) hgbl).trans b2, (hbm.cell (p := ⟨gb, 3, none⟩) hgbl).trans b3, (hbm.cell (p := ⟨gb, 4, none⟩) hgbl).trans b4⟩; have d1 := (hbm.cell (p := ⟨g1, s2.low * 512 + E, none⟩) hg1).trans a2; have d2 := (hbm.frozen (p := ⟨g1, s2.low * 512 + E, none⟩) hg1).trans a3; have hls := hbm.size; have HBM := Lib.hid hbm; clear hbm))
              all_goals
                go_wp2_with fail
                go_meet
                case rel => exact Lib.hid ⟨_, ((Below.refl wc.heap.size wc).drew).trans HBM.out, rfl⟩
            case rest =>
              obtain ⟨wm, hbm, rfl⟩ := hcut.out
              have HBD5 := Lib.hid (HST.out wm _ hbm HNUM.out)
              have hbb : Below B w (wm.setCell ⟨g1, s2.low * 512 + E, none⟩ (.int .u64 (Pg.Pge.num ⟨v, p, false, qw, qx⟩ : Nat))) := (HBL2.out.trans (hbm.mono (Nat.le_trans hBw HBL2.out.size))).setCell (p := ⟨g1, s2.low * 512 + E, none⟩) hB1 _
              have HBB := Lib.hid hbb
              have HFF : Hid (Far w (wm.setCell ⟨g1, s2.low * 512 + E, none⟩ (.int .u64 (Pg.Pge.num ⟨v, p, false, qw, qx⟩ : Nat)))) := Lib.hid (HFL2.out.trans HBD5.out.2)
              clear hbb hbm hcut a1 a2 a3 a4 b0 b1 b2 b3 b4 KEEP HMK
              generalize wm.setCell ⟨g1, s2.low * 512 + E, none⟩ (.int .u64 (Pg.Pge.num ⟨v, p, false, qw, qx⟩ : Nat)) = w5 at *
              obtain ⟨ga5, ca5, hr5, _, _⟩ := HBD5.out.1
              have d3 := hr5.cell 3
              have d4 := hr5.cell 4
              have f3 := hr5.frozen 3
              have f4 := hr5.frozen 4
              have hl5 := hr5.lt
              simp only [bcells, List.getElem?_cons_zero, List.getElem?_cons_succ] at d3 d4
              clear hr5
              go_wp2_with fail
              go_end0
              refine ⟨rfl, ?_, HBB.out.setCell (p := ⟨g, 4, none⟩) hB _, HFF.out.trans (far_set1 HBD5.out.1 4 _)⟩
              have hstep : Pg.step base s ⟨v, p, false, qw, qx⟩ = ⟨Pg.setE s2.all s2.low (v / 4096 % 512) (Pg.Pge.num ⟨v, p, false, qw, qx⟩), s2.mid, s2.low, v⟩ := by
                unfold Pg.step
                rw [HS2.out, HS1.out]
                rfl
              rw [hstep]
              have := HBD5.out.1.set4 v
              rw [HEE.out] at this
              exact this
end Go.Proofs.Ytblfagmoilhdnaa
