/- Texts of this claim, one behind the other: LvC. -/
import Derived.Test.YtfpofaniicegaaaGreatJWalkForeign31
import Derived.Test.YtfpofaniicegaaaGreatJWalkForeign28
import Derived.Shelf.Abstract
import Derived.Shelf.RegionOpen
import Derived.WalkKit
import Derived.OwnWalkIn
import Derived.TacticsInMore
import Derived.LoopNIn
import Derived.LoopIn
import Derived.Sort.CutIn
/- The walk of what Leaves does under a table. -/
set_option linter.unusedVariables false
set_option linter.unusedSimpArgs false
namespace Go.Proofs.YtfpofaniicegaaaGreat
open Go.RowKit
open S64
attribute [local go_sem] Oper.semAt_some
theorem YieldAt.any {n : Nat} (m : Nat) {P : Program} {l : Nat} {args : Array Value} {W : World} {R : Ending → World → Prop} (h : YieldAt Fence.wide n P l args W R) : YieldAt Fence.wide m P l args W R := by
  obtain ⟨fn, tmps, assign, body, hy, hR⟩ := h
  exact ⟨fn, tmps, assign, body, hy, hR.1, fun c cs _ => hR.2 c cs (fun d h => by cases h)⟩
namespace Bu
def pmb (mb : Nat) : Value := .pointer (some ⟨mb, 0, none⟩)
def pyl (l : Nat) : Value := .func (.yield l) #[] #[]
/-- the iterator's own things -/
structure Itr (S : MemS) (Z R : Nat → Prop) (M : PM) (T : TypeId) (v : Value) (mb B l left : Nat) (W : World) : Prop where
  mach : ∃ s : Int, S Z R W (sM M s)
  cm : Row W mb 69 [.iface T v]
  cy : Row W B 142 [pyl l]
  cl : Row W (B + 1) 3 [.int .i64 (left : Nat)]
  cd : Row W (B + 2) 143 [.func (.func 65) #[] #[pmb mb, pmb (B + 1), pmb (B + 2), pmb B]]
section
variable {S : MemS} {Z R : Nat → Prop} {M : PM} {T : TypeId} {v : Value} {mb B l left : Nat} {W W' : World}
theorem Itr.kp (hS : MemI S) {prot : Nat → Prop} (h : Itr S Z R M T v mb B l left W) (hp : ∀ k, Z k ∨ R k ∨ k = mb → prot k) (hk : KpC (upTo prot B 3) W W') : Itr S Z R M T v mb B l left W' := by
  obtain ⟨⟨s, hs⟩, h1, h2, h3, h4⟩ := h
  refine ⟨⟨s, hS.chg hs hk (fun k hz hn => hn (.inl (hp k (hz.elim .inl (fun h => .inr (.inl h))))))⟩, hk.row h1 (fun hn => hn (.inl (hp _ (.inr (.inr rfl))))), hk.row h2 (fun hn => hn (.inr (by omega))), hk.row h3 (fun hn => hn (.inr (by omega))), hk.row h4 (fun hn => hn (.inr (by omega)))⟩
theorem Itr.below (hS : MemI S) (h : Itr S Z R M T v mb B l left W) (hb : Below W.heap.size W W') : Itr S Z R M T v mb B l left W' := by
  obtain ⟨⟨s, hs⟩, h1, h2, h3, h4⟩ := h
  exact ⟨⟨s, hS.below hs hb⟩, h1.below hb h1.lt, h2.below hb h2.lt, h3.below hb h3.lt, h4.below hb h4.lt⟩
end
theorem Itr.chgZ {S : MemS} {Z R : Nat → Prop} {M : PM} {T : TypeId} {v : Value} {mb B l left : Nat} {W W' : World} (h : Itr S Z R M T v mb B l left W) (hm : ¬ Z mb) (hB : ∀ k, Z k → k < B) (hc : ChgP Z W W') (hs : ∃ s : Int, S Z R W' (sM M s)) : Itr S Z R M T v mb B l left W' := by
  obtain ⟨_, h1, h2, h3, h4⟩ := h
  exact ⟨hs, hc.row h1 hm, hc.row h2 (fun hz => by have := hB _ hz; omega), hc.row h3 (fun hz => by have := hB _ hz; omega), hc.row h4 (fun hz => by have := hB _ hz; omega)⟩
theorem Itr.setL {S : MemS} (hS : MemI S) {Z R : Nat → Prop} {M : PM} {T : TypeId} {v : Value} {mb B l left : Nat} {W : World} (h : Itr S Z R M T v mb B l left W) (hm : mb < B) (hB : ∀ k, Z k ∨ R k → k < B) (left' : Nat) : Itr S Z R M T v mb B l left' (W.setCell ⟨B + 1, 0, none⟩ (.int .i64 (left' : Nat))) := by
  obtain ⟨⟨s, hs⟩, h1, h2, h3, h4⟩ := h
  have hc : ChgP (fun k => k = B + 1) W (W.setCell ⟨B + 1, 0, none⟩ (.int .i64 (left' : Nat))) := ChgP.set_ (Z := fun k => k = B + 1) (ChgP.refl _ W) (p := ⟨B + 1, 0, none⟩) (.inl rfl) _
  exact ⟨⟨s, hS.chg hs hc (fun k hz hk => by have := hB k hz; omega)⟩, hc.row h1 (by omega), hc.row h2 (by omega), h3.set_ 0 _, hc.row h4 (by omega)⟩
theorem rch_up {lv : Nat} (h : lv < 2) : 512 * rch (lv + 1) = rch lv := by
  unfold rch
  rcases (show lv = 0 ∨ lv = 1 by omega) with rfl | rfl <;> decide
theorem lvR_step {M : PM} {sub : Nat → Nat → Nat → List Lv × Nat × Bool} {lv tab virt i left : Nat} (hi : i < 512) : lvR M sub lv tab virt (512 - i) left =
    if (entM M tab i lv).2 = 41 then lvR M sub lv tab virt (512 - (i + 1)) left
    else if (entM M tab i lv).2 = 0 ∧ (entM M tab i lv).1.t = true then
      (if left ≤ 1 then ([], 0, false)
       else if (sub (entM M tab i lv).1.F (virt + i * rch lv) (left - 1)).2.2 = true then
         ((sub (entM M tab i lv).1.F (virt + i * rch lv) (left - 1)).1 ++ (lvR M sub lv tab virt (512 - (i + 1)) (sub (entM M tab i lv).1.F (virt + i * rch lv) (left - 1)).2.1).1, (lvR M sub lv tab virt (512 - (i + 1)) (sub (entM M tab i lv).1.F (virt + i * rch lv) (left - 1)).2.1).2)
       else ((sub (entM M tab i lv).1.F (virt + i * rch lv) (left - 1)).1, (sub (entM M tab i lv).1.F (virt + i * rch lv) (left - 1)).2.1, false))
    else if left ≤ 1 then ([leafAt lv (virt + i * rch lv) (entM M tab i lv)], 0, false)
    else (leafAt lv (virt + i * rch lv) (entM M tab i lv) :: (lvR M sub lv tab virt (512 - (i + 1)) (left - 1)).1, (lvR M sub lv tab virt (512 - (i + 1)) (left - 1)).2) := by
  obtain ⟨d, hd⟩ : ∃ d, d = 511 - i := ⟨_, rfl⟩
  rw [show 512 - i = d + 1 by omega, show 512 - (i + 1) = d by omega]
  obtain rfl : i = 511 - d := by omega
  rfl
end Bu
open Bu
set_option maxRecDepth 100000 in
set_option maxHeartbeats 4000000 in
theorem under_in {T : TypeId} {v : Value} {S : MemS} (hS : MemI S) (hC : EntC T v S) (Z R prot : Nat → Prop) (M : PM) (mb B l : Nat) (L : List Lv) (hp : ∀ k, Z k ∨ R k ∨ k = mb → prot k) (hmb : ¬ Z mb) (hpB : ∀ k, prot k → k < B) (J Jx : List Lv → World → Prop)
    (hJ : AbC (upTo Z B 3) J)
    (hY : ∀ pre x W1, J pre W1 → pre ++ [x] <+: L → B + 3 ≤ W1.heap.size → YieldAt Fence.wide 0 Tryz.prog l (lvEnc x) W1 fun e W' =>
      (e = .returned (.bool true) ∧ J (pre ++ [x]) W' ∧ KpC (upTo prot B 3) W1 W') ∨ (e = .returned (.bool false) ∧ Jx (pre ++ [x]) W' ∧ KpC (upTo prot B 3) W1 W')) :
    ∀ (k lv tab virt left n : Nat) (pre : List Lv) (W : World), lv + k = 3 → lv < 3 → tab ≤ 18446744073709547520 → virt + 512 * Bu.rch lv ≤ 549755813888 → 1 ≤ left → left < 9223372036854775808 → Itr S Z R M T v mb B l left W → J pre W → pre ++ (lvT M k lv tab virt left).1 <+: L → B + 3 ≤ W.heap.size →
      CallsIn Fence.wide n Tryz.prog 65 #[.int .u64 (tab : Nat), .int .i64 (lv : Nat), .int .u64 (virt : Nat), pmb mb, pmb (B + 1), pmb (B + 2), pmb B] W fun e W' => W.heap.size ≤ W'.heap.size ∧
        ((e = .returned (.bool (lvT M k lv tab virt left).2.2) ∧ J (pre ++ (lvT M k lv tab virt left).1) W' ∧ Itr S Z R M T v mb B l (lvT M k lv tab virt left).2.1 W') ∨
         (e = .returned (.bool false) ∧ ∃ q, q <+: (lvT M k lv tab virt left).1 ∧ Jx (pre ++ q) W' ∧ ∃ s : Int, S Z R W' (sM M s))) := by
  intro k
  induction k with
  | zero => intro lv tab virt left n pre W hlv hlv3; omega
  | succ k ih =>
  intro lv tab virt left n pre W hlv hlv3 htab hvirt hl1 hl2 hit hj hN hsz
  have hdd : ∀ k : Nat, (Fence.wide.depth.isSome = true → 1 ≤ k) := fun k h => by cases h
  have HIH := Lib.hid ih
  have HS := Lib.hid hS; have HC := Lib.hid hC; have HP := Lib.hid hp; have HMB := Lib.hid hmb; have HPB := Lib.hid hpB; have HJ := Lib.hid hJ; have HY := Lib.hid hY
  have HIT := Lib.hid hit
  have HJ0 := Lib.hid hj
  have HN := Lib.hid hN
  have HVI := Lib.hid hvirt
  clear ih hS hC hp hmb hpB hJ hY hit hj hN hvirt
  unfold pmb
  refine callsIn_of_wp Tryz.func65 rfl trivial ?_ rfl
  simp only [Tryz.ntmps65, List.size_toArray, List.length_cons, List.length_nil, Nat.reduceAdd, Nat.reduceSub, Array.replicate_succ, Array.replicate_zero, List.push_toArray, List.append_toArray, List.nil_append, List.cons_append]
  obtain ⟨r, hr⟩ : ∃ r, r = lvT M (k + 1) lv tab virt left := ⟨_, rfl⟩
  rw [← hr] at HN ⊢
  obtain ⟨sub, hsub⟩ : ∃ sub, sub = lvT M k (lv + 1) := ⟨_, rfl⟩
  have HRR : Hid (r = lvR M sub lv tab virt 512 left) := Lib.hid (by rw [hr, hsub]; rfl)
  have HSUB := Lib.hid hsub
  clear hr hsub
  obtain ⟨rc, hrc⟩ : ∃ rc, rc = Bu.rch lv := ⟨_, rfl⟩
  have hrcB : rc = 1073741824 ∨ rc = 2097152 ∨ rc = 4096 := by
    rw [hrc]; unfold Bu.rch
    rcases (show lv = 0 ∨ lv = 1 ∨ lv = 2 by omega) with rfl | rfl | rfl <;> decide
  rw [← hrc] at HVI
  have HRC := Lib.hid hrc
  have HRE : Hid (∀ wx, CallsIn Fence.wide (n - 1) Tryz.prog 61 #[.int .i64 (lv : Nat)] wx fun e w' => e = .returned (.int .u64 (rc : Nat)) ∧ wx = w') := Lib.hid (fun wx => callsIn_wide.2 (by rw [hrc]; exact reach_any lv wx hlv3))
  clear hrc
  gi_wp2
  gi_loopw [16] (fun x wr => ∃ (i lf : Nat) (told : List Lv), i ≤ 512 ∧ x = .int .i64 (i : Nat) ∧ (1 ≤ lf ∧ lf ≤ left) ∧ Hid (Itr S Z R M T v mb B l lf wr) ∧ Hid (J (pre ++ told) wr) ∧ Hid (r.1 = told ++ (lvR M sub lv tab virt (512 - i) lf).1 ∧ r.2 = (lvR M sub lv tab virt (512 - i) lf).2) ∧ Hid (W.heap.size ≤ wr.heap.size)) (fun x _ => 512 - (intOf x).toNat)
  case atStart => exact ⟨0, left, [], by omega, rfl, ⟨hl1, Nat.le_refl _⟩, HIT, Lib.hid (by rw [List.append_nil]; exact HJ0.out), Lib.hid (by rw [HRR.out]; exact ⟨rfl, rfl⟩), Lib.hid (Nat.le_refl _)⟩
  case round =>
  clear HIT HJ0 HRR
  obtain ⟨i, lf, told, hi, rfl, ⟨hlf1, hlf2⟩, HIT, HJ0, HRR, HSZ⟩ := hrel
  by_cases hin : i < 512
  · have HWS : Hid (B + 3 ≤ wr.heap.size) := Lib.hid (Nat.le_trans hsz HSZ.out)
    obtain ⟨ir, hir⟩ : ∃ ir, ir = i * rc := ⟨_, rfl⟩
    have hirB : ir + rc ≤ 512 * rc := by rw [hir]; have := Nat.mul_le_mul_right rc (show i + 1 ≤ 512 by omega); rw [Nat.add_mul, Nat.one_mul] at this; exact this
    have hvi := HVI.out
    obtain ⟨at_, hat⟩ : ∃ a, a = virt + ir := ⟨_, rfl⟩
    have ew1 : IntKind.u64.wrap (i : Int) = (i : Int) := by rw [IntKind.wrap_u64]; omega
    have ew2 : (i : Int) * (rc : Int) = (ir : Int) := by rw [hir]; simp
    have ew3 : IntKind.u64.wrap (ir : Int) = (ir : Int) := by rw [IntKind.wrap_u64]; omega
    have ew4 : (virt : Int) + (ir : Int) = (at_ : Int) := by rw [hat]; simp
    have ew5 : IntKind.u64.wrap (at_ : Int) = (at_ : Int) := by rw [IntKind.wrap_u64]; omega
    obtain ⟨s0, hm0⟩ := HIT.out.mach
    obtain ⟨yn, hyn⟩ : ∃ yn, yn = entM M tab i lv := ⟨_, rfl⟩
    have hcr := HIT.out.cm.cell 0
    simp only [List.getElem?_cons_zero] at hcr
    have hent := callsIn_wide (n := n - 1) |>.2 (HC.out Z R wr (sM M s0) tab i lv hm0 trivial htab hin hlv3)
    rw [show entM (sM M s0) tab i lv = entM M tab i lv from rfl, ← hyn] at hent
    have HEN := Lib.hid hent
    have HYN := Lib.hid hyn
    obtain ⟨pg, hpg⟩ : ∃ pg, pg = rc / 4096 := ⟨_, rfl⟩
    have ew6 : (rc : Int) / 4096 = (pg : Int) := by rw [hpg]; simp
    have HPG := Lib.hid hpg
    have HIR := Lib.hid hir; have HAT := Lib.hid hat
    clear hent hyn hir hm0 hat hvi hpg
    gi_wp2_with fail
    refine ⟨trivial, hdd _, (HRE.out _).mono ?_⟩
    rintro e w' ⟨rfl, rfl⟩
    gi_wp2_with fail
    refine ⟨trivial, hdd _, HEN.out.mono ?_⟩
    rintro e w2 ⟨rfl, hq⟩
    clear HEN hcr
    obtain ⟨⟨yF, yt, yb, yw, yx⟩, no⟩ := yn
    simp only at hq ⊢
    unfold eVal
    gi_wp2_with fail
    refine ⟨trivial, hdd _, (HRE.out _).mono ?_⟩
    rintro e w' ⟨rfl, rfl⟩
    gi_upto_region 7 with fail
    obtain ⟨s2, _, _, hs2, hc2⟩ := hq
    have hi2 := HIT.out.chgZ HMB.out (fun k hz => HPB.out k (HP.out k (.inl hz))) hc2 ⟨s2, hs2⟩
    have hj2 := HJ.out _ _ _ HJ0.out (hc2.mono (fun k hz => .inl (.inl hz)))
    have hgx := Row.new w2 97 [.int .u64 (yF : Nat), .bool yt, .bool yb, .bool yw, .bool yx]
    obtain ⟨gx, hgx0⟩ : ∃ gx, gx = w2.heap.size := ⟨_, rfl⟩
    have hb3 : Below w2.heap.size w2 (w2.alloc (.cells #[.int .u64 (yF : Nat), .bool yt, .bool yb, .bool yw, .bool yx] 97)) := (Below.refl _ _).alloc (Nat.le_refl _) _
    have hs3 : (w2.alloc (.cells #[.int .u64 (yF : Nat), .bool yt, .bool yb, .bool yw, .bool yx] 97)).heap.size = gx + 1 := by rw [hgx0]; simp
    rw [← hgx0] at hgx
    generalize w2.alloc (.cells #[.int .u64 (yF : Nat), .bool yt, .bool yb, .bool yw, .bool yx] 97) = w3 at *
    have hgl := Row.new w3 116 [.int .u64 (at_ : Nat), .int .u64 0, .int .i64 (pg : Nat), .bool false, .bool false, .bool false]
    have hb4 : Below w3.heap.size w3 (w3.alloc (.cells #[.int .u64 (at_ : Nat), .int .u64 0, .int .i64 (pg : Nat), .bool false, .bool false, .bool false] 116)) := (Below.refl _ _).alloc (Nat.le_refl _) _
    generalize w3.alloc (.cells #[.int .u64 (at_ : Nat), .int .u64 0, .int .i64 (pg : Nat), .bool false, .bool false, .bool false] 116) = w4 at *
    rw [hs3] at hgl
    have hgx4 := hgx.below hb4 hgx.lt
    have hsw : wr.heap.size ≤ gx := by rw [hgx0]; exact hc2.size
    rw [← hgx0]
    have hb24 : Below w2.heap.size w2 w4 := hb3.trans (hb4.mono hb3.size)
    have HIT4 := Lib.hid (hi2.below HS.out hb24)
    have HJ4 := Lib.hid (HJ.out _ _ _ hj2 (ChgP.of_below hb24))
    have HCW : Hid (ChgP (upTo Z B 3) wr w4) := Lib.hid (ChgP.trans (hc2.mono (fun k hz => .inl (.inl hz))) (ChgP.of_below (Z := fun _ => False) hb24) (fun _ h => h.elim))
    have HGW : Hid (wr.heap.size ≤ gx) := Lib.hid hsw
    have HSZ4 : Hid (wr.heap.size ≤ w4.heap.size) := Lib.hid (Nat.le_trans hc2.size hb24.size)
    have HGX := Lib.hid hgx4; have HGL := Lib.hid hgl
    have HGB : Hid (B + 3 ≤ gx) := Lib.hid (Nat.le_trans HWS.out hsw)
    clear hgx4 hgl hb24 hb3 hb4 hgx hs3 hi2 hj2 hc2 hs2 hsw hgx0 HIT
    rw [lvR_step hin, ← HYN.out, ← HRC.out, ← HIR.out, ← HAT.out] at HRR
    by_cases n41 : no = 41
    · subst n41
      have HR2 : Hid (r.1 = told ++ (lvR M sub lv tab virt (512 - (i + 1)) lf).1 ∧ r.2 = (lvR M sub lv tab virt (512 - (i + 1)) lf).2) := Lib.hid (by have := HRR.out; rw [if_pos rfl] at this; exact this)
      clear HRR
      gi_wp2_with fail
      go_roundw
      case rel => exact ⟨i + 1, lf, told, by omega, by go_num, ⟨hlf1, hlf2⟩, HIT4, HJ4, HR2, Lib.hid (Nat.le_trans HSZ.out HSZ4.out)⟩
      case measure => simp [intOf]; omega
    · rw [if_neg n41] at HRR
      have f41 : ((no : Int) == 41) = false := by simp; omega
      obtain ⟨l1, hl1e⟩ : ∃ l1, l1 = lf - 1 := ⟨_, rfl⟩
      have ew7 : (lf : Int) - 1 = (l1 : Int) := by omega
      have HL1 := Lib.hid hl1e
      have hl1p : l1 + 1 = lf := by omega
      clear hl1e
      have hmbB : mb < B := HPB.out mb (HP.out mb (.inr (.inr rfl)))
      have hzrB : ∀ k, Z k ∨ R k → k < B := fun k hk => HPB.out k (HP.out k (hk.elim .inl (fun h => .inr (.inl h))))
      have h5c : ChgP (fun k => k = B + 1) w4 (w4.setCell ⟨B + 1, 0, none⟩ (.int .i64 (l1 : Nat))) := ChgP.set_ (Z := fun k => k = B + 1) (ChgP.refl _ w4) (p := ⟨B + 1, 0, none⟩) (.inl rfl) _
      have hit5 := HIT4.out.setL HS.out hmbB hzrB l1
      have hj5 := HJ.out _ _ _ HJ4.out (h5c.mono (fun k hk => .inl (.inr (by omega))))
      have hc5 : ChgP (upTo Z B 3) wr (w4.setCell ⟨B + 1, 0, none⟩ (.int .i64 (l1 : Nat))) := HCW.out.set_ (p := ⟨B + 1, 0, none⟩) (.inl (.inr (by show B ≤ B + 1 ∧ B + 1 < B + 3; omega))) _
      have hgx5 := h5c.row HGX.out (by have := HGB.out; omega)
      have hgl5 := h5c.row HGL.out (by have := HGB.out; omega)
      have d1 := HIT4.out.cl.cell 0
      have d1f := HIT4.out.cl.frozen 0
      simp only [List.getElem?_cons_zero] at d1
      gi_upto_region 9 with fail
      have hs5 : (w4.setCell ⟨B + 1, 0, none⟩ (.int .i64 (l1 : Nat))).heap.size = w4.heap.size := by simp
      generalize w4.setCell ⟨B + 1, 0, none⟩ (.int .i64 (l1 : Nat)) = w5 at *
      have HC5 := Lib.hid hc5; have HIT5 := Lib.hid hit5; have HJ5 := Lib.hid hj5; have HGX5 := Lib.hid hgx5; have HGL5 := Lib.hid hgl5
      have HSZ5 : Hid (W.heap.size ≤ w5.heap.size) := Lib.hid (by rw [hs5]; exact Nat.le_trans HSZ.out HSZ4.out)
      clear hc5 HCW hit5 hj5 hgx5 hgl5 h5c hs5 d1 d1f HGX HGL HIT4 HJ4 hl1p
      by_cases nt : no = 0 ∧ yt = true
      · obtain ⟨rfl, rfl⟩ := nt
        have ht := entM_t HYN.out.symm
        simp only at ht
        have hlv2 : lv < 2 := ht.1 trivial
        have HT := Lib.hid ht
        clear ht
        rw [if_pos ⟨rfl, rfl⟩] at HRR
        have c1 := HGX5.out.cell 1
        have c0 := HGX5.out.cell 0
        have cl := HGX5.out.lt
        have e0 := HIT5.out.cl.cell 0
        have el := HIT5.out.cl.lt
        have e1 := HIT5.out.cd.cell 0
        have el1 := HIT5.out.cd.lt
        simp only [List.getElem?_cons_zero, List.getElem?_cons_succ] at c0 c1 e0 e1
        by_cases q1 : l1 = 0
        · subst q1
          have HE : Hid (r = (told, 0, false)) := Lib.hid (by
            have h := HRR.out
            rw [if_pos (by have := HL1.out; omega)] at h
            obtain ⟨r1, r2⟩ := r
            simp only [List.append_nil] at h
            rw [h.1, h.2])
          gi_wp2_with fail
          refine ⟨fun _ h => (by cases h), ?_⟩
          gi_wp2_with fail
          go_ret
          exact ⟨HSZ5.out, .inl ⟨by rw [HE.out]; try rfl, by rw [HE.out]; exact HJ5.out, by rw [HE.out]; exact HIT5.out⟩⟩
        · have f0 : ((l1 : Int) == 0) = false := by simp; omega
          rw [if_neg (by have := HL1.out; omega), ← HL1.out] at HRR
          obtain ⟨s, hs⟩ : ∃ s, s = sub yF at_ l1 := ⟨_, rfl⟩
          have hlf := lvT_left (M := M) k (lv + 1) yF at_ l1 (by omega)
          rw [← HSUB.out, ← hs] at hlf
          rw [← hs] at HRR
          have hN5 : (pre ++ told) ++ s.1 <+: L := by
            have h2 := HN.out
            rw [HRR.out.1] at h2
            rw [List.append_assoc]
            refine List.IsPrefix.trans ((List.prefix_append_right_inj pre).2 ((List.prefix_append_right_inj told).2 ?_)) h2
            split
            · exact List.prefix_append _ _
            · exact List.prefix_rfl
          have hd := HIH.out (lv + 1) yF at_ l1 (n - 1) (pre ++ told) w5 (by omega) (by omega) (by have := HT.out.2.1; omega) (by
            rw [rch_up hlv2, ← HRC.out, HAT.out]
            have := HVI.out
            omega) (by omega) (by have := HL1.out; omega) HIT5.out HJ5.out (by rw [← HSUB.out, ← hs]; exact hN5) (Nat.le_trans hsz HSZ5.out)
          rw [← HSUB.out, ← hs] at hd
          unfold pmb at hd e1
          rw [show ((lv + 1 : Nat) : Int) = (lv : Int) + 1 by omega] at hd
          have HD := Lib.hid hd
          have HLF := Lib.hid hlf
          clear hd hlf hs hN5
          obtain ⟨t1, l6, g6⟩ := s
          simp only at HD HRR HLF
          gi_wp2_with fail
          refine ⟨trivial, hdd _, HD.out.mono ?_⟩
          rintro e w6 ⟨hs6, (⟨rfl, hj6, hit6⟩ | ⟨rfl, q, hq, hjx, hm6⟩)⟩
          · have HSZ6 : Hid (W.heap.size ≤ w6.heap.size) := Lib.hid (Nat.le_trans HSZ5.out hs6)
            have HJ6 : Hid (J (pre ++ (told ++ t1)) w6) := Lib.hid (by rw [← List.append_assoc]; exact hj6)
            have HIT6 := Lib.hid hit6
            clear hs6 hj6 hit6 HD
            cases g6
            · have HE : Hid (r = (told ++ t1, l6, false)) := Lib.hid (by
                have h := HRR.out
                rw [if_neg (by simp)] at h
                obtain ⟨r1, r2⟩ := r
                simp only at h
                rw [h.1, h.2])
              gi_wp2_with fail
              go_ret
              exact ⟨HSZ6.out, .inl ⟨by rw [HE.out]; try rfl, by rw [HE.out]; exact HJ6.out, by rw [HE.out]; exact HIT6.out⟩⟩
            · have HR2 : Hid (r.1 = (told ++ t1) ++ (lvR M sub lv tab virt (512 - (i + 1)) l6).1 ∧ r.2 = (lvR M sub lv tab virt (512 - (i + 1)) l6).2) := Lib.hid (by
                have h := HRR.out
                rw [if_pos rfl] at h
                exact ⟨by rw [h.1, List.append_assoc], h.2⟩)
              have hl6 : 1 ≤ l6 ∧ l6 ≤ lf := ⟨HLF.out.2 rfl, by have := HLF.out.1; have := HL1.out; omega⟩
              gi_wp2_with fail
              go_roundw
              case rel => exact ⟨i + 1, l6, told ++ t1, by omega, by go_num, ⟨hl6.1, by omega⟩, HIT6, HJ6, HR2, HSZ6⟩
              case measure => simp [intOf]; omega
          · have HSZ6 : Hid (W.heap.size ≤ w6.heap.size) := Lib.hid (Nat.le_trans HSZ5.out hs6)
            have HPX : Hid (told ++ q <+: r.1) := Lib.hid (by
              rw [HRR.out.1]
              split
              · exact (List.prefix_append_right_inj told).2 (hq.trans (List.prefix_append _ _))
              · exact (List.prefix_append_right_inj told).2 hq)
            have HJX : Hid (Jx (pre ++ (told ++ q)) w6 ∧ ∃ s : Int, S Z R w6 (sM M s)) := Lib.hid ⟨by rw [← List.append_assoc]; exact hjx, hm6⟩
            clear hs6 hjx hm6 HD
            gi_wp2_with fail
            go_ret
            exact ⟨HSZ6.out, .inr ⟨by try rfl, told ++ q, HPX.out, HJX.out⟩⟩
      · rw [if_neg nt] at HRR
        obtain ⟨x, hx⟩ : ∃ x, x = leafAt lv at_ (⟨yF, yt, yb, yw, yx⟩, no) := ⟨_, rfl⟩
        rw [← hx] at HRR
        have c0 := HGX5.out.cell 0
        have c1 := HGX5.out.cell 1
        have c2 := HGX5.out.cell 2
        have c3 := HGX5.out.cell 3
        have c4 := HGX5.out.cell 4
        have cl := HGX5.out.lt
        have e0 := HIT5.out.cl.cell 0
        have el := HIT5.out.cl.lt
        have e1 := HIT5.out.cy.cell 0
        have el1 := HIT5.out.cy.lt
        have g0 := HGL5.out.cell 0
        have g1 := HGL5.out.cell 1
        have g2 := HGL5.out.cell 2
        have g3 := HGL5.out.cell 3
        have g4 := HGL5.out.cell 4
        have g5 := HGL5.out.cell 5
        have gl := HGL5.out.lt
        simp only [List.getElem?_cons_zero, List.getElem?_cons_succ] at c0 c1 c2 c3 c4 e0 e1 g0 g1 g2 g3 g4 g5
        unfold pyl at e1
        by_cases n0 : no = 0
        · subst n0
          have fz1 := HGL5.out.frozen 1
          have fz3 := HGL5.out.frozen 3
          have fz4 := HGL5.out.frozen 4
          have fz5 := HGL5.out.frozen 5
          obtain rfl : yt = false := by cases yt with
            | false => rfl
            | true => exact absurd ⟨rfl, rfl⟩ nt
          have HX : Hid (lvEnc x = #[.agg #[.int .u64 (at_ : Nat), .int .u64 (yF : Nat), .int .i64 (pg : Nat), .bool yb, .bool yw, .bool yx], .int .i64 0]) := Lib.hid (by rw [hx]; unfold leafAt lvEnc lvV; simp only [if_true]; rw [← HRC.out, ← HPG.out]; rfl)
          clear hx nt
          gi_wp2_with fail
          gi_region
          have hk6 : KpC (upTo prot B 3) w5 ((((w5.setCell ⟨gx + 1, 1, none⟩ (.int .u64 (yF : Nat))).setCell ⟨gx + 1, 3, none⟩ (.bool yb)).setCell ⟨gx + 1, 4, none⟩ (.bool yw)).setCell ⟨gx + 1, 5, none⟩ (.bool yx)).drew := by
            have hnp : ¬ upTo prot B 3 (gx + 1) := fun h => by
              have := HGB.out
              rcases h with h | h
              · have := HPB.out _ h; omega
              · omega
            exact ((((ChgP.refl _ w5).set_ (p := ⟨gx + 1, 1, none⟩) (.inl hnp) _).set_ (p := ⟨gx + 1, 3, none⟩) (.inl hnp) _).set_ (p := ⟨gx + 1, 4, none⟩) (.inl hnp) _).set_ (p := ⟨gx + 1, 5, none⟩) (.inl hnp) _ |>.drew
          have hr6 : Row ((((w5.setCell ⟨gx + 1, 1, none⟩ (.int .u64 (yF : Nat))).setCell ⟨gx + 1, 3, none⟩ (.bool yb)).setCell ⟨gx + 1, 4, none⟩ (.bool yw)).setCell ⟨gx + 1, 5, none⟩ (.bool yx)).drew (gx + 1) 116 [.int .u64 (at_ : Nat), .int .u64 (yF : Nat), .int .i64 (pg : Nat), .bool yb, .bool yw, .bool yx] := (((HGL5.out.set_ 1 (.int .u64 (yF : Nat))).set_ 3 (.bool yb)).set_ 4 (.bool yw)).set_ 5 (.bool yx)
          have hj6 : J (pre ++ told) ((((w5.setCell ⟨gx + 1, 1, none⟩ (.int .u64 (yF : Nat))).setCell ⟨gx + 1, 3, none⟩ (.bool yb)).setCell ⟨gx + 1, 4, none⟩ (.bool yw)).setCell ⟨gx + 1, 5, none⟩ (.bool yx)).drew := by
            have hge : wr.heap.size ≤ gx + 1 := by have := HGW.out; omega
            exact HJ.out _ _ _ HJ0.out (((((HC5.out.set_ (p := ⟨gx + 1, 1, none⟩) (.inr hge) _).set_ (p := ⟨gx + 1, 3, none⟩) (.inr hge) _).set_ (p := ⟨gx + 1, 4, none⟩) (.inr hge) _).set_ (p := ⟨gx + 1, 5, none⟩) (.inr hge) _).drew)
          generalize ((((w5.setCell ⟨gx + 1, 1, none⟩ (.int .u64 (yF : Nat))).setCell ⟨gx + 1, 3, none⟩ (.bool yb)).setCell ⟨gx + 1, 4, none⟩ (.bool yw)).setCell ⟨gx + 1, 5, none⟩ (.bool yx)).drew = w6 at *
          have HSZ6 : Hid (W.heap.size ≤ w6.heap.size) := Lib.hid (Nat.le_trans HSZ5.out hk6.size)
          have HJ6 := Lib.hid hj6
          have HIT6 := Lib.hid (HIT5.out.kp HS.out HP.out hk6)
          clear c0 c1 c2 c3 c4 cl e0 el e1 el1 g0 g1 g2 g3 g4 g5 gl fz1 fz3 fz4 fz5
          have e0 := HIT6.out.cl.cell 0
          have el := HIT6.out.cl.lt
          have e1 := HIT6.out.cy.cell 0
          have el1 := HIT6.out.cy.lt
          have g0 := hr6.cell 0
          have g1 := hr6.cell 1
          have g2 := hr6.cell 2
          have g3 := hr6.cell 3
          have g4 := hr6.cell 4
          have g5 := hr6.cell 5
          have gl := hr6.lt
          simp only [List.getElem?_cons_zero, List.getElem?_cons_succ] at e0 e1 g0 g1 g2 g3 g4 g5
          unfold pyl at e1
          clear hr6 hk6 hj6
          have hy0 := HY.out (pre ++ told) x w6 HJ6.out (by
            have h2 := HN.out
            rw [HRR.out.1] at h2
            rw [List.append_assoc]
            refine List.IsPrefix.trans ((List.prefix_append_right_inj pre).2 ((List.prefix_append_right_inj told).2 ?_)) h2
            split
            · exact List.prefix_rfl
            · exact ⟨_, rfl⟩) (Nat.le_trans hsz HSZ6.out)
          obtain ⟨fn, tmps, assign, body, hy, hR⟩ := YieldAt.any (n - 1) hy0
          rw [HX.out] at hy
          clear hy0
          gi_wp2_with fail
          refine ⟨hdd _, hR.mono ?_⟩
          rintro e w7 (⟨rfl, hj7, hk7⟩ | ⟨rfl, hjx, hk7⟩)
          · have hit7 := HIT6.out.kp HS.out HP.out hk7
            have HSZ7 : Hid (W.heap.size ≤ w7.heap.size) := Lib.hid (Nat.le_trans HSZ6.out hk7.size)
            have e0 := hit7.cl.cell 0
            have el := hit7.cl.lt
            simp only [List.getElem?_cons_zero] at e0
            have HIT7 := Lib.hid hit7
            have HJ7 : Hid (J (pre ++ (told ++ [x])) w7) := Lib.hid (by rw [← List.append_assoc]; exact hj7)
            clear hit7 hj7 hk7 hy hR
            by_cases q1 : l1 = 0
            · subst q1
              have HE : Hid (r = (told ++ [x], 0, false)) := Lib.hid (by
                have h := HRR.out
                rw [if_pos (by have := HL1.out; omega)] at h
                obtain ⟨r1, r2⟩ := r
                simp only at h
                rw [h.1, h.2])
              gi_wp2_with fail
              go_ret
              exact ⟨HSZ7.out, .inl ⟨by rw [HE.out]; try rfl, by rw [HE.out]; exact HJ7.out, by rw [HE.out]; exact HIT7.out⟩⟩
            · have f0 : ((l1 : Int) == 0) = false := by simp; omega
              have HR2 : Hid (r.1 = (told ++ [x]) ++ (lvR M sub lv tab virt (512 - (i + 1)) l1).1 ∧ r.2 = (lvR M sub lv tab virt (512 - (i + 1)) l1).2) := Lib.hid (by
                have h := HRR.out
                rw [if_neg (by have := HL1.out; omega), ← HL1.out] at h
                exact ⟨by rw [h.1]; simp, h.2⟩)
              gi_wp2_with fail
              go_roundw
              case rel => exact ⟨i + 1, l1, told ++ [x], by omega, by go_num, ⟨by omega, by have := HL1.out; omega⟩, HIT7, HJ7, HR2, HSZ7⟩
              case measure => simp [intOf]; omega
          · have hit7 := HIT6.out.kp HS.out HP.out hk7
            have HPX : Hid (told ++ [x] <+: r.1) := Lib.hid (by
              rw [HRR.out.1]
              split
              · exact List.prefix_rfl
              · exact ⟨(lvR M sub lv tab virt (512 - (i + 1)) (lf - 1)).1, by simp⟩)
            have HSZ7 : Hid (W.heap.size ≤ w7.heap.size) := Lib.hid (Nat.le_trans HSZ6.out hk7.size)
            have HJX : Hid (Jx (pre ++ (told ++ [x])) w7 ∧ ∃ s : Int, S Z R w7 (sM M s)) := Lib.hid ⟨by rw [← List.append_assoc]; exact hjx, hit7.mach⟩
            clear hit7 hjx hk7 hy hR
            gi_wp2_with fail
            go_ret
            exact ⟨HSZ7.out, .inr ⟨by try rfl, told ++ [x], HPX.out, HJX.out⟩⟩
        · have fn0 : ((no : Int) == 0) = false := by simp; omega
          have HX : Hid (lvEnc x = #[.agg #[.int .u64 (at_ : Nat), .int .u64 0, .int .i64 (pg : Nat), .bool false, .bool false, .bool false], .int .i64 (no : Nat)]) := Lib.hid (by rw [hx]; unfold leafAt lvEnc lvV; simp only [if_neg n0]; rw [← HRC.out, ← HPG.out]; rfl)
          clear hx nt
          have HSZ6 := HSZ5; have HJ6 := HJ5; have HIT6 := HIT5
          have hy0 := HY.out (pre ++ told) x w5 HJ6.out (by
            have h2 := HN.out
            rw [HRR.out.1] at h2
            rw [List.append_assoc]
            refine List.IsPrefix.trans ((List.prefix_append_right_inj pre).2 ((List.prefix_append_right_inj told).2 ?_)) h2
            split
            · exact List.prefix_rfl
            · exact ⟨_, rfl⟩) (Nat.le_trans hsz HSZ6.out)
          obtain ⟨fn, tmps, assign, body, hy, hR⟩ := YieldAt.any (n - 1) hy0
          rw [HX.out] at hy
          clear hy0
          gi_wp2_with fail
          refine ⟨hdd _, hR.mono ?_⟩
          rintro e w7 (⟨rfl, hj7, hk7⟩ | ⟨rfl, hjx, hk7⟩)
          · have hit7 := HIT6.out.kp HS.out HP.out hk7
            have HSZ7 : Hid (W.heap.size ≤ w7.heap.size) := Lib.hid (Nat.le_trans HSZ6.out hk7.size)
            have e0 := hit7.cl.cell 0
            have el := hit7.cl.lt
            simp only [List.getElem?_cons_zero] at e0
            have HIT7 := Lib.hid hit7
            have HJ7 : Hid (J (pre ++ (told ++ [x])) w7) := Lib.hid (by rw [← List.append_assoc]; exact hj7)
            clear hit7 hj7 hk7 hy hR
            by_cases q1 : l1 = 0
            · subst q1
              have HE : Hid (r = (told ++ [x], 0, false)) := Lib.hid (by
                have h := HRR.out
                rw [if_pos (by have := HL1.out; omega)] at h
                obtain ⟨r1, r2⟩ := r
                simp only at h
                rw [h.1, h.2])
              gi_wp2_with fail
              go_ret
              exact ⟨HSZ7.out, .inl ⟨by rw [HE.out]; try rfl, by rw [HE.out]; exact HJ7.out, by rw [HE.out]; exact HIT7.out⟩⟩
            · have f0 : ((l1 : Int) == 0) = false := by simp; omega
              have HR2 : Hid (r.1 = (told ++ [x]) ++ (lvR M sub lv tab virt (512 - (i + 1)) l1).1 ∧ r.2 = (lvR M sub lv tab virt (512 - (i + 1)) l1).2) := Lib.hid (by
                have h := HRR.out
                rw [if_neg (by have := HL1.out; omega), ← HL1.out] at h
                exact ⟨by rw [h.1]; simp, h.2⟩)
              gi_wp2_with fail
              go_roundw
              case rel => exact ⟨i + 1, l1, told ++ [x], by omega, by go_num, ⟨by omega, by have := HL1.out; omega⟩, HIT7, HJ7, HR2, HSZ7⟩
              case measure => simp [intOf]; omega
          · have hit7 := HIT6.out.kp HS.out HP.out hk7
            have HPX : Hid (told ++ [x] <+: r.1) := Lib.hid (by
              rw [HRR.out.1]
              split
              · exact List.prefix_rfl
              · exact ⟨(lvR M sub lv tab virt (512 - (i + 1)) (lf - 1)).1, by simp⟩)
            have HSZ7 : Hid (W.heap.size ≤ w7.heap.size) := Lib.hid (Nat.le_trans HSZ6.out hk7.size)
            have HJX : Hid (Jx (pre ++ (told ++ [x])) w7 ∧ ∃ s : Int, S Z R w7 (sM M s)) := Lib.hid ⟨by rw [← List.append_assoc]; exact hjx, hit7.mach⟩
            clear hit7 hjx hk7 hy hR
            gi_wp2_with fail
            go_ret
            exact ⟨HSZ7.out, .inr ⟨by try rfl, told ++ [x], HPX.out, HJX.out⟩⟩
  · have ei : i = 512 := by omega
    subst ei
    have HE : Hid (r = (told, lf, true)) := Lib.hid (by
      obtain ⟨h1, h2⟩ := HRR.out
      rw [show 512 - 512 = 0 from rfl] at h1 h2
      simp only [lvR, List.append_nil] at h1 h2
      obtain ⟨r1, r2⟩ := r
      simp only at h1 h2
      rw [h1, h2])
    gi_wp2_with fail
    go_ret
    exact ⟨HSZ.out, .inl ⟨by rw [HE.out]; try rfl, by rw [HE.out]; exact HJ0.out, by rw [HE.out]; exact HIT.out⟩⟩
end Go.Proofs.YtfpofaniicegaaaGreat
