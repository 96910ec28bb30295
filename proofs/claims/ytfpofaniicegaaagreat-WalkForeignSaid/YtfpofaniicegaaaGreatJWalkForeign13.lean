/- Texts of this claim, one behind the other: BuR. -/
import Derived.Test.YtfpofaniicegaaaGreatJWalkForeign12
import Derived.Deep.MidRow
import Derived.Deep.WholeRow
/- The walks of laying bytes: lay's closure, and lay, once for each closure that tells the bytes. (Printed by wip/laygen.py.) -/
set_option linter.unusedVariables false
set_option linter.unusedSimpArgs false
namespace Go.Proofs.YtfpofaniicegaaaGreat
open Go.RowKit
open S64
namespace Bu
theorem wpList_load_midw {P : Program} {ops : Array Oper} {rest : List Oper} {op : Oper} {a : Act} {w : World} {Q : Exit → Act → World → Prop} (hw : Region.wanted op (yielded ops a.tmps) = true) (ty : TypeId) (x : Operand) (ho : op.op = .load ty x)
    (b o : Nat) (hx : a.eval x = .pointer (some ⟨b, o, none⟩)) (cs : List Value) (d : TypeDesc) (hc : w.rangeAt b o cs)
    (hu : P.underlying ty = some d) (hd : d.isRow = true) (hi : (P.info? ty).map (·.size) = some cs.length)
    (h : wpList P ops Q rest (a.put op.dst (.agg cs.toArray)) w) : wpList P ops Q (op :: rest) a w :=
  wpList_wanted hw fun _ hK => wp_load_mid ty x ho b o hx cs d hc hu hd hi (hK _ _ h)
theorem row_rangeAt {w : World} {g : Nat} {t : TypeId} {V : List Value} (h : Row w g t V) : w.rangeAt g 0 V := fun j v hv => by rw [Nat.zero_add, h.cell, hv]
theorem Row.ne_map {w : World} {g b : Nat} {t : TypeId} {cs : List Value} {pm : Nat → Option Nat} (h : Row w g t cs) (hm : MapAt w b pm) : g ≠ b := by
  rintro rfl
  obtain ⟨⟨D, n, ⟨es, clock, hb, _⟩, _⟩, _⟩ := hm
  have := h.symm.trans hb
  cases this
/-- what holds while d bytes are laid -/
def LInv (F : Nat) (Z R : Nat → Prop) (w : World) (g : Nat) (M : PM) (A1 A2 Ao : Option Addr) (x1 x2 no co b : Nat) (sp : Sp.S) (at_ : Nat) (f : Nat → Nat) (c1 c2 cf d : Nat) (wx : World) : Prop :=
  ∃ pm, MachAt (grow Z w) (fun k => R k ∧ k < w.heap.size) wx g { M with mem := layM M.mem at_ d f } A1 A2 Ao x1 x2 no co b pm sp ∧ Row wx c1 50 [.pointer (some ⟨g, 0, none⟩)] ∧ Row wx c2 129 [.func (.func F) #[] #[.pointer (some ⟨cf, 0, none⟩)]] ∧ ChgP Z w wx
set_option maxRecDepth 100000 in
set_option maxHeartbeats 2000000 in
theorem lay1_store (Z R : Nat → Prop) (M : PM) (A1 A2 Ao : Option Addr) (x1 x2 no co b : Nat) (sp : Sp.S) (at_ n g c1 c2 cf d : Nat) (f : Nat → Nat) (w wx : World)
    (hi : LInv 57 Z R w g M A1 A2 Ao x1 x2 no co b sp at_ f c1 c2 cf d wx) (hd : d < n) (h64 : at_ + n ≤ 4503599627370496) (hf : ∀ i, f i < 256) (hby : ∀ p, M.mem p < 256)
    (hof : ∀ wy i, ChgP Z w wy → i < n → Calls Tryz.prog 57 #[.int .i64 (i : Nat), .pointer (some ⟨cf, 0, none⟩)] wy fun e w' => e = .returned (u8 (f i)) ∧ wy = w') :
    Calls Tryz.prog 77 #[.int .u64 (((at_ + d) / 4096 : Nat) : Int), .int .i64 (((at_ + d) % 4096 : Nat) : Int), .int .i64 (eachK at_ n d : Nat), .int .i64 (d : Nat), .pointer (some ⟨c1, 0, none⟩), .pointer (some ⟨c2, 0, none⟩)] wx
      fun e w' => e = .returned (.tuple #[]) ∧ LInv 57 Z R w g M A1 A2 Ao x1 x2 no co b sp at_ f c1 c2 cf (d + eachK at_ n d) w' := by
  obtain ⟨pm, hm, h1, h2, hc⟩ := hi
  have hk := eachK_pos (at_ := at_) hd
  obtain ⟨q, hq⟩ : ∃ q, q = (at_ + d) / 4096 := ⟨_, rfl⟩
  obtain ⟨fr, hfr⟩ : ∃ fr, fr = (at_ + d) % 4096 := ⟨_, rfl⟩
  obtain ⟨k, hkk⟩ : ∃ k, k = eachK at_ n d := ⟨_, rfl⟩
  have hlk := hm.map.look q (by unfold TOP; omega)
  rw [← hkk, ← hfr] at hk
  rw [← hkk, ← hfr, ← hq]
  have p0 := h1.cell 0
  have p1 := h2.cell 0
  have p2 := hm.row.cell 6
  have l1 := h1.lt
  have l2 := h2.lt
  have lg := hm.row.lt
  simp only [List.getElem?_cons_zero, List.getElem?_cons_succ] at p0 p1 p2
  have HK := Lib.hid hk
  have HQ := Lib.hid hq
  have HFR := Lib.hid hfr
  have HM := Lib.hid hm
  have H1x := Lib.hid h1
  have H2x := Lib.hid h2
  have HCX0 := Lib.hid hc
  have HOF := Lib.hid hof
  have HF8 := Lib.hid hf
  have HBY := Lib.hid hby
  have HQB : Hid (q < 4503599627370496) := Lib.hid (by omega)
  have hkn : d + k ≤ n := hk.2.1
  have hkf : fr + k ≤ 4096 := hk.2.2
  have hk0 : 0 < k := hk.1
  have hn : n ≤ 4503599627370496 := by omega
  clear hk hq hfr hkk hm h1 h2 hc hof hf h64 hby
  obtain ⟨o, ho⟩ : ∃ o, o = pm q := ⟨_, rfl⟩
  rw [← ho] at hlk
  have HO := Lib.hid ho
  clear ho
  cases o with
  | none =>
    unfold ptrV at hlk
    simp only [Option.isSome_none] at hlk
    obtain ⟨hz0, hsz⟩ := zero_of_info info_leaf
    obtain ⟨Zl, hZl⟩ : ∃ Zl, Zl = List.replicate 4096 (u8 0) := ⟨_, rfl⟩
    rw [← hZl] at hz0
    have HZl := Lib.hid hZl
    clear hZl hsz
    go_enter Tryz.func77, Tryz.ntmps77
    go_upto_region 3 with fail
    have HL : Hid (Row (wx.alloc (.cells Zl.toArray 156)) wx.heap.size 156 (leafRow (layM M.mem at_ (d + 0) f) q)) := Lib.hid (by
      rw [leafRow_zero (layM M.mem at_ (d + 0) f) q (fun i hi => HM.out.zero q HO.out.symm i hi), ← HZl.out]
      exact Row.new wx _ Zl)
    have hb1 : Below wx.heap.size wx (wx.alloc (.cells Zl.toArray 156)) := (Below.refl _ _).alloc (Nat.le_refl _) _
    have HM0 := HM
    have HNG : Hid (g ≠ wx.heap.size) := Lib.hid (by omega)
    have HPO : Hid (∀ k', k' ≠ q → pm k' ≠ some wx.heap.size) := Lib.hid (fun k' _ e => by
      obtain ⟨h1, _, _⟩ := HM.out.leaf k' _ e
      exact absurd h1.lt (by omega))
    have HZP : Hid (∀ x, x = wx.heap.size → Z x ∨ w.heap.size ≤ x) := Lib.hid (fun x e => .inr (by have := HCX0.out.size; omega))
    obtain ⟨p, hp⟩ : ∃ p, p = wx.heap.size := ⟨_, rfl⟩
    rw [← hp] at HL HNG HPO HZP ⊢
    clear hp
    have HM1 := Lib.hid (HM.out.below hb1)
    have H1 : Hid (Row (wx.alloc (.cells Zl.toArray 156)) c1 _ _) := Lib.hid (H1x.out.alloc _)
    have H2 : Hid (Row (wx.alloc (.cells Zl.toArray 156)) c2 _ _) := Lib.hid (H2x.out.alloc _)
    have HCX : Hid (ChgP Z w (wx.alloc (.cells Zl.toArray 156))) := Lib.hid (HCX0.out.alloc _)
    clear p0 p1 p2 l1 l2 lg hlk hb1
    generalize wx.alloc (.cells Zl.toArray 156) = w1 at *
    clear HM H1x H2x HCX0
    go_wp2_with fail
    go_loopw [12, 28] (fun z i wr => ∃ j : Nat, j ≤ k ∧ i = .int .i64 (j : Nat) ∧ z = .bool (zb f d j) ∧ Hid (Row wr p 156 (leafRow (layM M.mem at_ (d + j) f) q)) ∧ Hid (ChgP (fun x => x = p) w1 wr)) (fun _ i _ => k - (intOf i).toNat)
    case atStart => exact ⟨0, Nat.zero_le _, rfl, rfl, HL, Lib.hid (ChgP.refl _ _)⟩
    case round =>
      obtain ⟨j, hj, rfl, rfl, HR, HC⟩ := hrel
      have HQF : Hid (Row wr c2 129 [.func (.func 57) #[] #[.pointer (some ⟨cf, 0, none⟩)]]) := Lib.hid (HC.out.row H2.out (Row.ne_t H2.out HL.out (by decide)))
      by_cases hlt : j < k
      · have hj1 : fr + j < 4096 := by have := HK.out; omega
        have hj2 : d + j < n := by have := HK.out; omega
        obtain ⟨s, hs⟩ : ∃ s, s = fr + j := ⟨_, rfl⟩
        obtain ⟨u, hu⟩ : ∃ u, u = d + j := ⟨_, rfl⟩
        have e1 : (fr : Int) + (j : Int) = (s : Int) := by omega
        have e2 : (d : Int) + (j : Int) = (u : Int) := by omega
        have hs1 : s < 4096 := by omega
        have hsI : (s : Int) < 4096 := by omega
        have hsJ : (0 : Int) ≤ (s : Int) := by omega
        have hu1 : u < n := by omega
        have e3 : IntKind.i64.wrap (s : Int) = (s : Int) := by rw [IntKind.wrap_i64]; omega
        have e4 : IntKind.i64.wrap (u : Int) = (u : Int) := by rw [IntKind.wrap_i64]; omega
        have HCU : Hid (∀ wy, ChgP Z w wy → Calls Tryz.prog 57 #[.int .i64 (u : Nat), .pointer (some ⟨cf, 0, none⟩)] wy fun e w' => e = .returned (.int .u8 (f u : Nat)) ∧ wy = w') := Lib.hid fun wy hy => HOF.out wy u hy hu1
        have HST : Hid ((leafRow (layM M.mem at_ (d + j) f) q).set s (.int .u8 (f u : Nat)) = leafRow (layM M.mem at_ (d + (j + 1)) f) q) := Lib.hid (by
          have h := leafRow_step M.mem at_ d j f (by rw [← HFR.out]; exact hj1)
          rw [← HFR.out, ← HQ.out, ← hs] at h
          rw [hu]
          exact h)
        have HZS : Hid (zb f d (j + 1) = (zb f d j || f u == 0)) := Lib.hid (by rw [zb_succ, hu])
        obtain ⟨zj, hz⟩ : ∃ zj, zj = zb f d j := ⟨_, rfl⟩
        rw [← hz] at HZS ⊢
        have hcs : wr.cell? ⟨p, s, none⟩ = some (u8 (layM M.mem at_ (d + j) f (4096 * q + s))) := by rw [HR.out.cell s]; exact leafRow_get _ _ _ hs1
        have hzs := HR.out.frozen s
        have lp := HR.out.lt
        have q2 := HQF.out.cell 0
        have l2 := HQF.out.lt
        simp only [List.getElem?_cons_zero] at q2
        have HNP : Hid (c2 ≠ p) := Lib.hid (Row.ne_t H2.out HL.out (by decide))
        have hfu : f u < 256 := HF8.out u
        have HCW : Hid (ChgP Z w wr.drew) := Lib.hid ((HCX.out.trans HC.out (fun x hx => HZP.out x hx)).drew)
        have KEEP : Hid (∀ v : Value, (wr.drew.setCell ⟨p, s, none⟩ v).cell? ⟨c2, 0, none⟩ = some (.func (.func 57) #[] #[.pointer (some ⟨cf, 0, none⟩)])) := Lib.hid fun v => (World.cell?_setCell_other _ _ _ _ (by intro h; injection h with h; exact HNP.out (by first | exact h | exact h.symm))).trans q2
        clear hs hu hz
        go_upto_region 7 with fail
        go_region_held3 (fun w' => w'.cell? ⟨c2, 0, none⟩ = some (.func (.func 57) #[] #[.pointer (some ⟨cf, 0, none⟩)]))
          (first | exact q2 | exact KEEP.out _)
          (first
            | (go_at_call 57; refine (HCU.out _ HCW.out).mono ?_; rintro e w' ⟨rfl, rfl⟩))
        all_goals
          have hr4 := (HR.out.set_ s (.int .u8 (f u : Nat))).drew
          rw [HST.out] at hr4
          have hc4 : ChgP (fun x => x = p) w1 (wr.setCell ⟨p, s, none⟩ (.int .u8 (f u : Nat))).drew := (HC.out.set_ (p := ⟨p, s, none⟩) (.inl rfl) _).drew
          have HCE : Hid ((wr.setCell ⟨p, s, none⟩ (.int .u8 (f u : Nat))).drew.cell? ⟨p, s, none⟩ = some (.int .u8 (f u : Nat))) := Lib.hid (by
            have h := (HR.out.set_ s (.int .u8 (f u : Nat))).drew.cell s
            rw [List.getElem?_set_self (by rw [leafRow_len]; exact hs1)] at h
            exact h)
          have HR4 := Lib.hid hr4; have HC4 := Lib.hid hc4
          clear hr4 hc4 hcs hzs lp q2 l2 KEEP
          generalize (wr.setCell ⟨p, s, none⟩ (.int .u8 (f u : Nat))).drew = w4 at *
          have c4 := HCE.out
          have l4 := HR4.out.lt
          cases zj with
          | true =>
            go_wp2_with fail
            go_roundw
            case rel => exact ⟨j + 1, by omega, by go_num, by rw [HZS.out]; rfl, HR4, HC4⟩
            case measure => simp [intOf]; omega
          | false =>
            cases hx : (((f u : Nat) : Int) == 0) with
            | true =>
              have HX : Hid ((f u == 0) = true) := Lib.hid (by have := eq_of_beq hx; rw [beq_iff_eq]; omega)
              go_wp2_with fail
              go_roundw
              case rel => exact ⟨j + 1, by omega, by go_num, by rw [HZS.out, HX.out]; rfl, HR4, HC4⟩
              case measure => simp [intOf]; omega
            | false =>
              have HX : Hid ((f u == 0) = false) := Lib.hid (by have := ne_of_beq_false hx; rw [beq_eq_false_iff_ne]; omega)
              go_wp2_with fail
              go_roundw
              case rel => exact ⟨j + 1, by omega, by go_num, by rw [HZS.out, HX.out]; rfl, HR4, HC4⟩
              case measure => simp [intOf]; omega
      · have HJK : Hid (j = k) := Lib.hid (by omega)
        have HRK : Hid (Row wr p 156 (leafRow (layM M.mem at_ (d + k) f) q)) := Lib.hid (by rw [← HJK.out]; exact HR.out)
        obtain ⟨zj, hz⟩ : ∃ zj, zj = zb f d j := ⟨_, rfl⟩
        have HZJ : Hid (zj = zb f d k) := Lib.hid (by rw [hz, HJK.out])
        rw [← hz]
        have HGR : Hid (Row wr g 89 _) := Lib.hid (HC.out.row HM1.out.row HNG.out)
        have H1R : Hid (Row wr c1 50 _) := Lib.hid (HC.out.row H1.out (Row.ne_t H1.out HL.out (by decide)))
        have HBP : Hid (b ≠ p) := Lib.hid (fun e => Row.ne_map HL.out HM1.out.map e.symm)
        have HMAP : Hid (MapAt wr b pm) := Lib.hid (HM1.out.map.same (HC.out.block b HM1.out.map.lt HBP.out))
        have FIN : Hid (∀ (w9 : World) (pm9 : Nat → Option Nat), ChgP (fun x => x = b) wr w9 → MapAt w9 b pm9 → (∀ k', k' ≠ q → pm9 k' = pm k') → ((pm9 q = some p ∧ nz (layM M.mem at_ (d + k) f) q) ∨ (pm9 q = none ∧ ∀ i, i < 4096 → layM M.mem at_ (d + k) f (4096 * q + i) = 0)) → LInv 57 Z R w g M A1 A2 Ao x1 x2 no co b sp at_ f c1 c2 cf (d + k) w9) := Lib.hid (by
          intro w9 pm9 hc9 hm9 ho9 hq9
          have hcc : ChgP (fun x => x = b ∨ x = p) w1 w9 := (HC.out.mono (fun x hx => .inl (.inr hx))).trans hc9 (fun x hx => .inl (.inl hx))
          refine ⟨pm9, HM1.out.laid q p (layM M.mem at_ (d + k) f) hcc hm9 ho9 ?_ HPO.out (by rcases HZP.out p rfl with h | h; exact .inl h; exact .inr h) HNG.out (fun x hx => ?_) (layM_byte HBY.out HF8.out _ _), ?_, ?_, ?_⟩
          · rcases hq9 with ⟨h1, h2⟩ | h1
            · exact .inl ⟨h1, hc9.row HRK.out (fun e => HBP.out e.symm), h2⟩
            · exact .inr h1
          · exact layM_other (by rw [← HFR.out]; exact hkf) (by rw [← HQ.out]; exact hx)
          · exact hcc.row H1.out (by rintro (e | e); exact Row.ne_map H1.out HM1.out.map e; exact Row.ne_t H1.out HL.out (by decide) e)
          · exact hcc.row H2.out (by rintro (e | e); exact Row.ne_map H2.out HM1.out.map e; exact Row.ne_t H2.out HL.out (by decide) e)
          · exact HCX.out.trans hcc (fun x hx => by
              rcases hx with e | e
              · rcases HM1.out.zb with h | h
                · exact .inl (e ▸ h)
                · exact .inr (e ▸ h)
              · exact HZP.out x e))
        have p0 := H1R.out.cell 0
        have p2 := HGR.out.cell 6
        have l1 := H1R.out.lt
        have lg := HGR.out.lt
        have lp := HRK.out.lt
        simp only [List.getElem?_cons_zero, List.getElem?_cons_succ] at p0 p2
        clear hz
        cases zj with
        | false =>
          have HNZ : Hid (nz (layM M.mem at_ (d + k) f) q) := Lib.hid (by
            have h := nz_laid (mem := M.mem) (at_ := at_) (d := d) (k := k) (f := f) hk0 (by rw [← HFR.out]; exact hkf) HZJ.out.symm
            rw [← HQ.out] at h; exact h)
          obtain ⟨w9, hrun9, hm9, ht9⟩ := HMAP.out.store q p HQB.out
          have HM9 := Lib.hid hm9; have HT9 := Lib.hid ht9
          clear hm9 ht9
          go_wp2_with (first | (refine wpList_load_midw (by rfl) _ _ rfl _ _ (by rfl) V (.array 4096 5) (row_rangeAt HRV.out) under_leaf rfl (by rw [HVL.out]; exact (zero_of_info info_leaf).2) ?_))
          go_end0
          exact ⟨rfl, FIN.out w9 _ (ChgP.turned HT9.out) HM9.out (fun k' hk' => upd_other _ _ hk') (.inl ⟨upd_same _ _ _, HNZ.out⟩)⟩
        | true =>
          obtain ⟨V, hV⟩ : ∃ V, V = leafRow (layM M.mem at_ (d + k) f) q := ⟨_, rfl⟩
          have HVL : Hid (V.length = 4096) := Lib.hid (by rw [hV, leafRow_len])
          have HRV : Hid (Row wr p 156 V) := Lib.hid (by rw [hV]; exact HRK.out)
          obtain ⟨lb, hlb⟩ : ∃ lb, lb = lz (layM M.mem at_ (d + k) f) q := ⟨_, rfl⟩
          have heq : ∀ wy : World, (binOp .eql 156 (.agg V.toArray) (.agg Zl.toArray)).run Tryz.prog wy = .ok (.bool lb) wy := fun wy => by
            rw [hV, hlb, HZl.out]; exact eql_leaf _ _ (layM_byte HBY.out HF8.out _ _) wy
          have HLB := Lib.hid hlb
          clear hV hlb
          cases lb with
          | true =>
            obtain ⟨w9, hrun9, hm9, ht9⟩ := HMAP.out.drop q (by have := HQB.out; unfold TOP; omega) 0
            have hrun9 : ∀ ty, (Builtin.delete_ #[87, 31] ty #[.map (some b), .int .u64 (q : Nat)]).run Tryz.prog wr = .ok (.tuple #[]) w9 := fun ty => hrun9
            have HRN := Lib.hid hrun9; have HM9 := Lib.hid hm9; have HT9 := Lib.hid ht9
            clear hrun9 hm9 ht9
            go_wp2_with (first | (refine wpList_load_midw (by rfl) _ _ rfl _ _ (by rfl) V (.array 4096 5) (row_rangeAt HRV.out) under_leaf rfl (by rw [HVL.out]; exact (zero_of_info info_leaf).2) ?_) | (refine wpList_delete_run rfl _ _ _ _ rfl _ _ rfl rfl HRN.out ?_))
            go_end0
            exact ⟨rfl, FIN.out w9 _ (ChgP.turned HT9.out) HM9.out (fun k' hk' => upd_other _ _ hk') (.inr ⟨upd_same _ _ _, lz_yes HLB.out.symm⟩)⟩
          | false =>
            have HNZ : Hid (nz (layM M.mem at_ (d + k) f) q) := Lib.hid (lz_no HLB.out.symm)
            obtain ⟨w9, hrun9, hm9, ht9⟩ := HMAP.out.store q p HQB.out
            have HM9 := Lib.hid hm9; have HT9 := Lib.hid ht9
            clear hm9 ht9
            go_wp2_with (first | (refine wpList_load_midw (by rfl) _ _ rfl _ _ (by rfl) V (.array 4096 5) (row_rangeAt HRV.out) under_leaf rfl (by rw [HVL.out]; exact (zero_of_info info_leaf).2) ?_))
            go_end0
            exact ⟨rfl, FIN.out w9 _ (ChgP.turned HT9.out) HM9.out (fun k' hk' => upd_other _ _ hk') (.inl ⟨upd_same _ _ _, HNZ.out⟩)⟩
  | some p =>
    unfold ptrV at hlk
    simp only [Option.isSome_some] at hlk
    obtain ⟨hz0, hsz⟩ := zero_of_info info_leaf
    obtain ⟨Zl, hZl⟩ : ∃ Zl, Zl = List.replicate 4096 (u8 0) := ⟨_, rfl⟩
    rw [← hZl] at hz0
    have HZl := Lib.hid hZl
    clear hZl hsz
    obtain ⟨hr, hzp, hnz⟩ := HM.out.leaf q p HO.out.symm
    have HL : Hid (Row wx p 156 (leafRow (layM M.mem at_ (d + 0) f) q)) := Lib.hid hr
    have HM0 := HM
    have HNG : Hid (g ≠ p) := Lib.hid (Row.ne_t HM.out.row hr (by decide))
    have HPO : Hid (∀ k', k' ≠ q → pm k' ≠ some p) := Lib.hid (fun k' h e => h (HM.out.inj k' q p e HO.out.symm))
    have HZP : Hid (∀ x, x = p → Z x ∨ w.heap.size ≤ x) := Lib.hid (fun x e => by rw [e]; exact hzp)
    have lp0 := hr.lt
    clear hr hzp hnz
    go_enter Tryz.func77, Tryz.ntmps77
    go_upto_region 3 with fail
    obtain ⟨w1, hw1⟩ : ∃ w1, w1 = wx := ⟨_, rfl⟩
    subst hw1
    have HM1 := HM; have H1 := H1x; have H2 := H2x; have HCX := HCX0
    clear p0 p1 p2 l1 l2 lg hlk lp0 HM H1x H2x HCX0
    go_wp2_with fail
    go_loopw [12, 28] (fun z i wr => ∃ j : Nat, j ≤ k ∧ i = .int .i64 (j : Nat) ∧ z = .bool (zb f d j) ∧ Hid (Row wr p 156 (leafRow (layM M.mem at_ (d + j) f) q)) ∧ Hid (ChgP (fun x => x = p) w1 wr)) (fun _ i _ => k - (intOf i).toNat)
    case atStart => exact ⟨0, Nat.zero_le _, rfl, rfl, HL, Lib.hid (ChgP.refl _ _)⟩
    case round =>
      obtain ⟨j, hj, rfl, rfl, HR, HC⟩ := hrel
      have HQF : Hid (Row wr c2 129 [.func (.func 57) #[] #[.pointer (some ⟨cf, 0, none⟩)]]) := Lib.hid (HC.out.row H2.out (Row.ne_t H2.out HL.out (by decide)))
      by_cases hlt : j < k
      · have hj1 : fr + j < 4096 := by have := HK.out; omega
        have hj2 : d + j < n := by have := HK.out; omega
        obtain ⟨s, hs⟩ : ∃ s, s = fr + j := ⟨_, rfl⟩
        obtain ⟨u, hu⟩ : ∃ u, u = d + j := ⟨_, rfl⟩
        have e1 : (fr : Int) + (j : Int) = (s : Int) := by omega
        have e2 : (d : Int) + (j : Int) = (u : Int) := by omega
        have hs1 : s < 4096 := by omega
        have hsI : (s : Int) < 4096 := by omega
        have hsJ : (0 : Int) ≤ (s : Int) := by omega
        have hu1 : u < n := by omega
        have e3 : IntKind.i64.wrap (s : Int) = (s : Int) := by rw [IntKind.wrap_i64]; omega
        have e4 : IntKind.i64.wrap (u : Int) = (u : Int) := by rw [IntKind.wrap_i64]; omega
        have HCU : Hid (∀ wy, ChgP Z w wy → Calls Tryz.prog 57 #[.int .i64 (u : Nat), .pointer (some ⟨cf, 0, none⟩)] wy fun e w' => e = .returned (.int .u8 (f u : Nat)) ∧ wy = w') := Lib.hid fun wy hy => HOF.out wy u hy hu1
        have HST : Hid ((leafRow (layM M.mem at_ (d + j) f) q).set s (.int .u8 (f u : Nat)) = leafRow (layM M.mem at_ (d + (j + 1)) f) q) := Lib.hid (by
          have h := leafRow_step M.mem at_ d j f (by rw [← HFR.out]; exact hj1)
          rw [← HFR.out, ← HQ.out, ← hs] at h
          rw [hu]
          exact h)
        have HZS : Hid (zb f d (j + 1) = (zb f d j || f u == 0)) := Lib.hid (by rw [zb_succ, hu])
        obtain ⟨zj, hz⟩ : ∃ zj, zj = zb f d j := ⟨_, rfl⟩
        rw [← hz] at HZS ⊢
        have hcs : wr.cell? ⟨p, s, none⟩ = some (u8 (layM M.mem at_ (d + j) f (4096 * q + s))) := by rw [HR.out.cell s]; exact leafRow_get _ _ _ hs1
        have hzs := HR.out.frozen s
        have lp := HR.out.lt
        have q2 := HQF.out.cell 0
        have l2 := HQF.out.lt
        simp only [List.getElem?_cons_zero] at q2
        have HNP : Hid (c2 ≠ p) := Lib.hid (Row.ne_t H2.out HL.out (by decide))
        have hfu : f u < 256 := HF8.out u
        have HCW : Hid (ChgP Z w wr.drew) := Lib.hid ((HCX.out.trans HC.out (fun x hx => HZP.out x hx)).drew)
        have KEEP : Hid (∀ v : Value, (wr.drew.setCell ⟨p, s, none⟩ v).cell? ⟨c2, 0, none⟩ = some (.func (.func 57) #[] #[.pointer (some ⟨cf, 0, none⟩)])) := Lib.hid fun v => (World.cell?_setCell_other _ _ _ _ (by intro h; injection h with h; exact HNP.out (by first | exact h | exact h.symm))).trans q2
        clear hs hu hz
        go_upto_region 7 with fail
        go_region_held3 (fun w' => w'.cell? ⟨c2, 0, none⟩ = some (.func (.func 57) #[] #[.pointer (some ⟨cf, 0, none⟩)]))
          (first | exact q2 | exact KEEP.out _)
          (first
            | (go_at_call 57; refine (HCU.out _ HCW.out).mono ?_; rintro e w' ⟨rfl, rfl⟩))
        all_goals
          have hr4 := (HR.out.set_ s (.int .u8 (f u : Nat))).drew
          rw [HST.out] at hr4
          have hc4 : ChgP (fun x => x = p) w1 (wr.setCell ⟨p, s, none⟩ (.int .u8 (f u : Nat))).drew := (HC.out.set_ (p := ⟨p, s, none⟩) (.inl rfl) _).drew
          have HCE : Hid ((wr.setCell ⟨p, s, none⟩ (.int .u8 (f u : Nat))).drew.cell? ⟨p, s, none⟩ = some (.int .u8 (f u : Nat))) := Lib.hid (by
            have h := (HR.out.set_ s (.int .u8 (f u : Nat))).drew.cell s
            rw [List.getElem?_set_self (by rw [leafRow_len]; exact hs1)] at h
            exact h)
          have HR4 := Lib.hid hr4; have HC4 := Lib.hid hc4
          clear hr4 hc4 hcs hzs lp q2 l2 KEEP
          generalize (wr.setCell ⟨p, s, none⟩ (.int .u8 (f u : Nat))).drew = w4 at *
          have c4 := HCE.out
          have l4 := HR4.out.lt
          cases zj with
          | true =>
            go_wp2_with fail
            go_roundw
            case rel => exact ⟨j + 1, by omega, by go_num, by rw [HZS.out]; rfl, HR4, HC4⟩
            case measure => simp [intOf]; omega
          | false =>
            cases hx : (((f u : Nat) : Int) == 0) with
            | true =>
              have HX : Hid ((f u == 0) = true) := Lib.hid (by have := eq_of_beq hx; rw [beq_iff_eq]; omega)
              go_wp2_with fail
              go_roundw
              case rel => exact ⟨j + 1, by omega, by go_num, by rw [HZS.out, HX.out]; rfl, HR4, HC4⟩
              case measure => simp [intOf]; omega
            | false =>
              have HX : Hid ((f u == 0) = false) := Lib.hid (by have := ne_of_beq_false hx; rw [beq_eq_false_iff_ne]; omega)
              go_wp2_with fail
              go_roundw
              case rel => exact ⟨j + 1, by omega, by go_num, by rw [HZS.out, HX.out]; rfl, HR4, HC4⟩
              case measure => simp [intOf]; omega
      · have HJK : Hid (j = k) := Lib.hid (by omega)
        have HRK : Hid (Row wr p 156 (leafRow (layM M.mem at_ (d + k) f) q)) := Lib.hid (by rw [← HJK.out]; exact HR.out)
        obtain ⟨zj, hz⟩ : ∃ zj, zj = zb f d j := ⟨_, rfl⟩
        have HZJ : Hid (zj = zb f d k) := Lib.hid (by rw [hz, HJK.out])
        rw [← hz]
        have HGR : Hid (Row wr g 89 _) := Lib.hid (HC.out.row HM1.out.row HNG.out)
        have H1R : Hid (Row wr c1 50 _) := Lib.hid (HC.out.row H1.out (Row.ne_t H1.out HL.out (by decide)))
        have HBP : Hid (b ≠ p) := Lib.hid (fun e => Row.ne_map HL.out HM1.out.map e.symm)
        have HMAP : Hid (MapAt wr b pm) := Lib.hid (HM1.out.map.same (HC.out.block b HM1.out.map.lt HBP.out))
        have FIN : Hid (∀ (w9 : World) (pm9 : Nat → Option Nat), ChgP (fun x => x = b) wr w9 → MapAt w9 b pm9 → (∀ k', k' ≠ q → pm9 k' = pm k') → ((pm9 q = some p ∧ nz (layM M.mem at_ (d + k) f) q) ∨ (pm9 q = none ∧ ∀ i, i < 4096 → layM M.mem at_ (d + k) f (4096 * q + i) = 0)) → LInv 57 Z R w g M A1 A2 Ao x1 x2 no co b sp at_ f c1 c2 cf (d + k) w9) := Lib.hid (by
          intro w9 pm9 hc9 hm9 ho9 hq9
          have hcc : ChgP (fun x => x = b ∨ x = p) w1 w9 := (HC.out.mono (fun x hx => .inl (.inr hx))).trans hc9 (fun x hx => .inl (.inl hx))
          refine ⟨pm9, HM1.out.laid q p (layM M.mem at_ (d + k) f) hcc hm9 ho9 ?_ HPO.out (by rcases HZP.out p rfl with h | h; exact .inl h; exact .inr h) HNG.out (fun x hx => ?_) (layM_byte HBY.out HF8.out _ _), ?_, ?_, ?_⟩
          · rcases hq9 with ⟨h1, h2⟩ | h1
            · exact .inl ⟨h1, hc9.row HRK.out (fun e => HBP.out e.symm), h2⟩
            · exact .inr h1
          · exact layM_other (by rw [← HFR.out]; exact hkf) (by rw [← HQ.out]; exact hx)
          · exact hcc.row H1.out (by rintro (e | e); exact Row.ne_map H1.out HM1.out.map e; exact Row.ne_t H1.out HL.out (by decide) e)
          · exact hcc.row H2.out (by rintro (e | e); exact Row.ne_map H2.out HM1.out.map e; exact Row.ne_t H2.out HL.out (by decide) e)
          · exact HCX.out.trans hcc (fun x hx => by
              rcases hx with e | e
              · rcases HM1.out.zb with h | h
                · exact .inl (e ▸ h)
                · exact .inr (e ▸ h)
              · exact HZP.out x e))
        have p0 := H1R.out.cell 0
        have p2 := HGR.out.cell 6
        have l1 := H1R.out.lt
        have lg := HGR.out.lt
        have lp := HRK.out.lt
        simp only [List.getElem?_cons_zero, List.getElem?_cons_succ] at p0 p2
        clear hz
        cases zj with
        | false =>
          have HNZ : Hid (nz (layM M.mem at_ (d + k) f) q) := Lib.hid (by
            have h := nz_laid (mem := M.mem) (at_ := at_) (d := d) (k := k) (f := f) hk0 (by rw [← HFR.out]; exact hkf) HZJ.out.symm
            rw [← HQ.out] at h; exact h)
          go_wp2_with (first | (refine wpList_load_midw (by rfl) _ _ rfl _ _ (by rfl) V (.array 4096 5) (row_rangeAt HRV.out) under_leaf rfl (by rw [HVL.out]; exact (zero_of_info info_leaf).2) ?_))
          go_end0
          exact ⟨rfl, FIN.out wr pm (ChgP.refl _ _) HMAP.out (fun k' hk' => rfl) (.inl ⟨HO.out.symm, HNZ.out⟩)⟩
        | true =>
          obtain ⟨V, hV⟩ : ∃ V, V = leafRow (layM M.mem at_ (d + k) f) q := ⟨_, rfl⟩
          have HVL : Hid (V.length = 4096) := Lib.hid (by rw [hV, leafRow_len])
          have HRV : Hid (Row wr p 156 V) := Lib.hid (by rw [hV]; exact HRK.out)
          obtain ⟨lb, hlb⟩ : ∃ lb, lb = lz (layM M.mem at_ (d + k) f) q := ⟨_, rfl⟩
          have heq : ∀ wy : World, (binOp .eql 156 (.agg V.toArray) (.agg Zl.toArray)).run Tryz.prog wy = .ok (.bool lb) wy := fun wy => by
            rw [hV, hlb, HZl.out]; exact eql_leaf _ _ (layM_byte HBY.out HF8.out _ _) wy
          have HLB := Lib.hid hlb
          clear hV hlb
          cases lb with
          | true =>
            obtain ⟨w9, hrun9, hm9, ht9⟩ := HMAP.out.drop q (by have := HQB.out; unfold TOP; omega) 0
            have hrun9 : ∀ ty, (Builtin.delete_ #[87, 31] ty #[.map (some b), .int .u64 (q : Nat)]).run Tryz.prog wr = .ok (.tuple #[]) w9 := fun ty => hrun9
            have HRN := Lib.hid hrun9; have HM9 := Lib.hid hm9; have HT9 := Lib.hid ht9
            clear hrun9 hm9 ht9
            go_wp2_with (first | (refine wpList_load_midw (by rfl) _ _ rfl _ _ (by rfl) V (.array 4096 5) (row_rangeAt HRV.out) under_leaf rfl (by rw [HVL.out]; exact (zero_of_info info_leaf).2) ?_) | (refine wpList_delete_run rfl _ _ _ _ rfl _ _ rfl rfl HRN.out ?_))
            go_end0
            exact ⟨rfl, FIN.out w9 _ (ChgP.turned HT9.out) HM9.out (fun k' hk' => upd_other _ _ hk') (.inr ⟨upd_same _ _ _, lz_yes HLB.out.symm⟩)⟩
          | false =>
            have HNZ : Hid (nz (layM M.mem at_ (d + k) f) q) := Lib.hid (lz_no HLB.out.symm)
            go_wp2_with (first | (refine wpList_load_midw (by rfl) _ _ rfl _ _ (by rfl) V (.array 4096 5) (row_rangeAt HRV.out) under_leaf rfl (by rw [HVL.out]; exact (zero_of_info info_leaf).2) ?_))
            go_end0
            exact ⟨rfl, FIN.out wr pm (ChgP.refl _ _) HMAP.out (fun k' hk' => rfl) (.inl ⟨HO.out.symm, HNZ.out⟩)⟩
set_option maxRecDepth 100000 in
set_option maxHeartbeats 1000000 in
theorem lay_store (Z R : Nat → Prop) (M : PM) (A1 A2 Ao : Option Addr) (x1 x2 no co b : Nat) (pm : Nat → Option Nat) (sp : Sp.S) (at_ n g cf : Nat) (f : Nat → Nat) (w : World)
    (hm : MachAt Z R w g M A1 A2 Ao x1 x2 no co b pm sp) (h64 : n = 0 ∨ at_ + n ≤ 4503599627370496) (ha : at_ ≤ TOP) (hf : ∀ i, f i < 256)
    (hof : ∀ wy i, ChgP Z w wy → i < n → Calls Tryz.prog 57 #[.int .i64 (i : Nat), .pointer (some ⟨cf, 0, none⟩)] wy fun e w' => e = .returned (u8 (f i)) ∧ wy = w') :
    Calls Tryz.prog 56 #[.pointer (some ⟨g, 0, none⟩), .int .u64 (at_ : Nat), .int .i64 (n : Nat), .func (.func 57) #[] #[.pointer (some ⟨cf, 0, none⟩)]] w
      fun e w' => e = .returned (.tuple #[]) ∧ (∃ pm', MachAt (grow Z w) (fun k => R k ∧ k < w.heap.size) w' g { M with mem := layM M.mem at_ n f } A1 A2 Ao x1 x2 no co b pm' sp) ∧ ChgP Z w w' := by
  have HM := Lib.hid hm
  have H64 := Lib.hid h64
  have HA := Lib.hid ha
  have HOF := Lib.hid hof
  clear hm h64 ha hof
  go_enter Tryz.func56, Tryz.ntmps56
  go_upto_region 1 with fail
  have s1 : (w.alloc (.cells #[.pointer (some ⟨g, 0, none⟩)] 50)).heap.size = w.heap.size + 1 := by simp
  have r1 : Row ((w.alloc (.cells #[.pointer (some ⟨g, 0, none⟩)] 50)).alloc (.cells #[.func (.func 57) #[] #[.pointer (some ⟨cf, 0, none⟩)]] 129)) w.heap.size 50 [.pointer (some ⟨g, 0, none⟩)] := (Row.new w _ [.pointer (some ⟨g, 0, none⟩)]).alloc _
  have r2 : Row ((w.alloc (.cells #[.pointer (some ⟨g, 0, none⟩)] 50)).alloc (.cells #[.func (.func 57) #[] #[.pointer (some ⟨cf, 0, none⟩)]] 129)) (w.heap.size + 1) 129 [.func (.func 57) #[] #[.pointer (some ⟨cf, 0, none⟩)]] := by
    have h := Row.new (w.alloc (.cells #[.pointer (some ⟨g, 0, none⟩)] 50)) 129 [.func (.func 57) #[] #[.pointer (some ⟨cf, 0, none⟩)]]
    rw [s1] at h
    exact h
  have hb : Below w.heap.size w ((w.alloc (.cells #[.pointer (some ⟨g, 0, none⟩)] 50)).alloc (.cells #[.func (.func 57) #[] #[.pointer (some ⟨cf, 0, none⟩)]] 129)) := ((Below.refl _ _).alloc (Nat.le_refl _) _).alloc (by simp) _
  generalize (w.alloc (.cells #[.pointer (some ⟨g, 0, none⟩)] 50)).alloc (.cells #[.func (.func 57) #[] #[.pointer (some ⟨cf, 0, none⟩)]] 129) = w1 at *
  have HB := Lib.hid hb
  have HI : Hid (LInv 57 (fun k => Z k ∧ k < w.heap.size) (fun k => R k ∧ k < w.heap.size) w1 g M A1 A2 Ao x1 x2 no co b sp at_ f w.heap.size (w.heap.size + 1) cf 0 w1) := Lib.hid (by
    refine ⟨pm, ?_, r1, r2, ChgP.refl _ _⟩
    rw [layM_zero]
    exact (HM.out.tight.below hb).mono (fun k hk => .inl hk) (fun k hk => ⟨hk, by have := hb.size; omega⟩) (fun k hk hr => by
      rcases hk with hk | hk
      · exact HM.out.dis k hk.1 hr.1.1
      · have := hr.2; omega))
  have HST : Hid (∀ d wx, LInv 57 (fun k => Z k ∧ k < w.heap.size) (fun k => R k ∧ k < w.heap.size) w1 g M A1 A2 Ao x1 x2 no co b sp at_ f w.heap.size (w.heap.size + 1) cf d wx → d < n → Calls Tryz.prog 77 #[.int .u64 (((at_ + d) / 4096 : Nat) : Int), .int .i64 (((at_ + d) % 4096 : Nat) : Int), .int .i64 (eachK at_ n d : Nat), .int .i64 (d : Nat), .pointer (some ⟨w.heap.size, 0, none⟩), .pointer (some ⟨w.heap.size + 1, 0, none⟩)] wx fun e w' => e = .returned (.tuple #[]) ∧ LInv 57 (fun k => Z k ∧ k < w.heap.size) (fun k => R k ∧ k < w.heap.size) w1 g M A1 A2 Ao x1 x2 no co b sp at_ f w.heap.size (w.heap.size + 1) cf (d + eachK at_ n d) w') := Lib.hid (fun d wx hi hd => lay1_store _ _ M A1 A2 Ao x1 x2 no co b sp at_ n g _ _ cf d f w1 wx hi hd (by rcases H64.out with h | h <;> omega) hf HM.out.byte (fun wy i hy hi => HOF.out wy i ((ChgP.of_below HB.out).trans hy (fun x hx => .inl hx.1)) hi))
  clear s1 r1 r2 hb hf
  go_upto_region 2 with (go_at_call 76; refine (each_lay w.heap.size (w.heap.size + 1) at_ n (LInv 57 (fun k => Z k ∧ k < w.heap.size) (fun k => R k ∧ k < w.heap.size) w1 g M A1 A2 Ao x1 x2 no co b sp at_ f w.heap.size (w.heap.size + 1) cf) w1 H64.out HA.out HI.out HST.out).mono ?_; rintro e w2 ⟨rfl, hi2⟩; have HJ := Lib.hid hi2; clear hi2)
  go_end0
  obtain ⟨pm', hm, _, _, hc⟩ := HJ.out
  refine ⟨rfl, ⟨pm', hm.mono (fun k hk => ?_) (fun k hk => hk.1) (fun k hk hr => ?_)⟩, (ChgP.of_below HB.out).trans hc (fun x hx => .inl hx.1)⟩
  · rcases hk with hk | hk
    · exact .inl hk.1
    · exact .inr (Nat.le_trans HB.out.size hk)
  · rcases hk with hk | hk
    · exact HM.out.dis k hk hr.1
    · have := hr.2; omega
end Bu
end Go.Proofs.YtfpofaniicegaaaGreat
