/- Texts of this claim, one behind the other: PgT, PgU. -/
import Derived.Test.YtblfagmoilhdnaaJPagesTold23
import Derived.Test.YtblfagmoilhdnaaJPagesTold25
import Derived.RegionTactic
import Derived.Deep.Cut
import Derived.Deep.DeepCutAuto
import Derived.Test.YtblfagmoilhdnaaJPagesTold24
import Derived.Deep.QuietTactic
/- The walk of pages.Runs. -/
set_option linter.unusedVariables false
set_option linter.unusedSimpArgs false
namespace Go.Proofs.Ytblfagmoilhdnaa
open Go.RowKit

theorem infoLeaf : (Try.prog.info? 47).map (fun i => (i.zero, i.size, i.bytes)) = some (some (.agg #[.int .u64 0, .int .u64 0, .int .i64 0, .bool false, .bool false, .bool false]), 6, 32) := by kernel_rfl
theorem eqlL (w : World) (a b : Pg.Lf) (c : Bool) (hc : (decide (a.v = b.v) && decide (a.p = b.p) && decide (a.n = b.n) && a.b == b.b && a.w == b.w && a.x == b.x) = c) : (binOp .eql 47 (lfV a) (lfV b)).run Try.prog w = .ok (.bool c) w := by
  subst hc
  obtain ⟨a1, a2, a3, a4, a5, a6⟩ := a
  obtain ⟨b1, b2, b3, b4, b5, b6⟩ := b
  unfold lfV
  go_simp
  by_cases h1 : a1 = b1
  · subst h1
    by_cases h2 : a2 = b2
    · subst h2
      by_cases h3 : a3 = b3
      · subst h3
        cases a4 <;> cases a5 <;> cases a6 <;> cases b4 <;> cases b5 <;> cases b6 <;> simp
      · simp [h3]
    · have h2' : ¬ (a2 : Int) = (b2 : Int) := by omega
      simp [h2, h2']
  · have h1' : ¬ (a1 : Int) = (b1 : Int) := by omega
    simp [h1, h1']
theorem eqlM (w : World) (y x : Pg.Lf) (V P : Nat) (hv : V = y.v + y.n.toNat * 4096) (hp : P = y.p + y.n.toNat * 4096) : (binOp .eql 47 (lfV ⟨V, P, x.n, y.b, y.w, y.x⟩) (lfV x)).run Try.prog w = .ok (.bool (Pg.meets y x)) w := by
  refine eqlL w ⟨V, P, x.n, y.b, y.w, y.x⟩ x _ ?_
  subst hv hp
  unfold Pg.meets
  simp
theorem wpList_bin {P : Program} {ops : Array Oper} {rest : List Oper} {o : Oper} {a : Act} {Q : Exit → Act → World → Prop} {w : World} (hgd : Region.wanted o (yielded ops a.tmps) = true) (b : BinOp) (t : TypeId) (x y : Operand) (s : TypeId) (ho : o.op = .binOp b t x y s) {xs ys : Array Value} {v : Value} (hx : a.eval x = .agg xs) (hy : a.eval y = .agg ys) (hm : P.eqGuardType P.depth t = false)
    (hrun : (binOp b t (.agg xs) (.agg ys)).run P w = .ok v w) (h : wpList P ops Q rest (a.put o.dst v) w) : wpList P ops Q (o :: rest) a w :=
  wpList_wanted hgd fun _ hK => by
    unfold Oper.wp execOp
    simp only [ho, hx, hy, Sem.run_bind, run_eqGuard_agg (hm := hm), hrun, Result.andThen_ok]
    exact hK _ _ h
theorem guardLeaf : Try.prog.eqGuardType Try.prog.depth 47 = false := by kernel_rfl
def lall (l : List Pg.Lf) : List Value := l.flatMap lcells
theorem lall_len (l : List Pg.Lf) : (lall l).length = l.length * 6 := by
  induction l with
  | nil => rfl
  | cons r l ih =>
    unfold lall at ih ⊢
    rw [List.flatMap_cons, List.length_append, ih, lcells_len, List.length_cons]; omega
theorem lall_at {l : List Pg.Lf} {k : Nat} {r : Pg.Lf} (h : l[k]? = some r) (j : Nat) (hj : j < 6) : (lall l)[6 * k + j]? = (lcells r)[j]? := flat_at lcells 6 lcells_len l k j r h hj
theorem lall_snoc (a : List Pg.Lf) (x : Pg.Lf) : lall (a ++ [x]) = lall a ++ lcells x := by simp [lall]
theorem lall_set (a : List Pg.Lf) (y : Pg.Lf) (n : Int) : (lall (a ++ [y])).set (6 * a.length + 2) (.int .i64 n) = lall (a ++ [y.with n]) := by
  rw [lall_snoc, lall_snoc, List.set_append_right _ _ (by rw [lall_len]; omega), lall_len, show 6 * a.length + 2 - a.length * 6 = 2 by omega]
  rfl
theorem Pg.right_len : ∀ {rows : List Pg.Lf} {bh : Nat}, Pg.right bh rows = 0 → bh ≤ 549755813888 → bh + rows.length * 4096 ≤ 549755813888
  | [], bh, _, h => by simpa using h
  | r :: rs, bh, h, _ => by
    obtain ⟨h1, h2, h3⟩ := Pg.right_cons h
    have h4 := h1.n1
    have h5 := h1.vl
    have := Pg.right_len h3 h5
    rw [List.length_cons]
    omega
/-- a list of rows in memory of its own -/
def OwnL (w : World) (B : Nat) (A : Option Addr) (c : Nat) (l : List Pg.Lf) : Prop := w.ownsRow B 47 6 (.slice A l.length c) l.length (lall l)
theorem oneCell_leaf (r : Pg.Lf) : ∀ v ∈ lcells r, v.oneCell' = true := by
  intro v hv
  simp only [lcells, List.mem_cons, List.not_mem_nil, or_false] at hv
  rcases hv with rfl | rfl | rfl | rfl | rfl | rfl <;> rfl
set_option maxRecDepth 100000 in
set_option maxHeartbeats 1000000 in
theorem Runs_any (A : Option Addr) (n c : Nat) (rows : List Pg.Lf) (w : World) (hr : IsL w w.heap.size A n rows) :
    Calls Try.prog 28 #[.slice A n c] w fun e w' => ∃ A' c', e = .returned (.slice A' (Pg.runs rows).length c') ∧ OwnL w' w.heap.size A' c' (Pg.runs rows) ∧ Below w.heap.size w w' := by
  obtain ⟨i0, hi0, hz1, hz2, hz3⟩ := info_parts infoLeaf
  have HI := Lib.hid hi0; have HZ1 := Lib.hid hz1; have HZ2 := Lib.hid hz2; have HZ3 := Lib.hid hz3
  have HRT := Lib.hid (right_any A n c rows w hr)
  obtain ⟨b, off, HF⟩ := hr.form
  have HL := Lib.hid hr.2.2.1
  have hn := hr.2.2.2
  have HIN := Lib.hid hr.2.1
  clear hr hi0 hz1 hz2 hz3
  go_enter Try.func28, Try.ntmps28
  go_wp2_with fail
  refine HRT.out.mono ?_
  rintro e w1 ⟨rfl, hb1⟩
  have HB1 := Lib.hid hb1
  clear hb1
  obtain ⟨R, hR⟩ : ∃ R, R = Pg.right 0 rows := ⟨_, rfl⟩
  rw [← hR]
  by_cases h0 : R = 0
  · have HR0 : Hid (Pg.right 0 rows = 0) := Lib.hid (hR ▸ h0)
    have f0 : ((R : Int) != 0) = false := by rw [bne_eq_false_iff_eq]; omega
    clear h0 hR
    go_wp2_with fail
    go_loopw [3, 15] (fun o i wr => ∃ (k c1 m : Nat) (A1 : Option Addr) (out : List Pg.Lf), k ≤ n ∧ m ≤ k ∧ i = .int .i64 k ∧ o = .slice A1 m c1 ∧ Hid (OwnL wr w.heap.size A1 c1 out ∧ out.length = m) ∧ Hid (Pg.joins rows = (rows.drop k).foldl Pg.runs1 out) ∧ Hid (Pg.right 0 out = 0 ∧ Pg.right (Pg.endOf 0 out) (rows.drop k) = 0) ∧ Hid (Below w.heap.size w wr)) (fun _ i _ => n - (intOf i).toNat)
    case atStart => exact ⟨0, 0, 0, none, [], by omega, by omega, rfl, rfl, Lib.hid ⟨own_nil _ _ _ _, rfl⟩, Lib.hid rfl, Lib.hid ⟨rfl, HR0.out⟩, HB1⟩
    case round =>
      obtain ⟨k, c1, m, A1, out, hk, hm, rfl, rfl, HO, HJ, HSR, HB⟩ := hrel
      by_cases hkn : k < n
      · obtain ⟨hA, hbB, hc⟩ := HF.out (by omega)
        subst hA
        obtain ⟨r, hrk⟩ : ∃ r, rows[k]? = some r := ⟨_, List.getElem?_eq_getElem (by have := HL.out; omega)⟩
        have hd : rows.drop k = r :: rows.drop (k + 1) := by
          obtain ⟨hlt, he⟩ := List.getElem?_eq_some_iff.1 hrk
          rw [List.drop_eq_getElem_cons hlt, he]
        have c0 := (HB.out.cell (p := ⟨b, off + k * 6, none⟩) hbB).trans (hc k r hrk 0 _ rfl)
        have c1' := (HB.out.cell (p := ⟨b, off + k * 6 + 1, none⟩) hbB).trans (hc k r hrk 1 _ rfl)
        have c2 := (HB.out.cell (p := ⟨b, off + k * 6 + 2, none⟩) hbB).trans (hc k r hrk 2 _ rfl)
        have c3 := (HB.out.cell (p := ⟨b, off + k * 6 + 3, none⟩) hbB).trans (hc k r hrk 3 _ rfl)
        have c4 := (HB.out.cell (p := ⟨b, off + k * 6 + 4, none⟩) hbB).trans (hc k r hrk 4 _ rfl)
        have c5 := (HB.out.cell (p := ⟨b, off + k * 6 + 5, none⟩) hbB).trans (hc k r hrk 5 _ rfl)
        have hrt := HSR.out
        rw [hd] at hrt
        obtain ⟨hrok, hre, hrr⟩ := Pg.right_cons hrt.2
        have HROK := Lib.hid hrok
        have hjo := HJ.out
        rw [hd, List.foldl_cons] at hjo
        have HJO := Lib.hid hjo
        have hnx := Pg.runs1_right hrt.1 hrok hre
        have HNX : Hid (Pg.right 0 (Pg.runs1 out r) = 0 ∧ Pg.right (Pg.endOf 0 (Pg.runs1 out r)) (rows.drop (k + 1)) = 0) := Lib.hid ⟨hnx.1, by rw [hnx.2.1]; exact hrr⟩
        have hr1 := hrok.n1
        have hr5 := hrok.vl
        have hr6 := hrok.pl
        have HRT0 := Lib.hid hrt.1
        obtain ⟨v, p, nn, bg, wt, ex⟩ := r
        simp only at hr1 hr5 hr6
        obtain ⟨xn, rfl⟩ : ∃ xn : Nat, nn = xn := ⟨nn.toNat, by omega⟩
        simp only [Int.toNat_natCast] at hr1 hr5 hr6
        clear hc hrk hrt hrok hre hrr hjo hnx hd HSR HJ HRT
        go_upto_region 7 with fail
        have hrx := Row.new wr 47 (lcells ⟨v, p, xn, bg, wt, ex⟩)
        have hba := HB.out.alloc HB.out.size (.cells (lcells ⟨v, p, xn, bg, wt, ex⟩).toArray 47)
        have hox : OwnL (wr.alloc (.cells (lcells ⟨v, p, xn, bg, wt, ex⟩).toArray 47)) w.heap.size A1 c1 out := World.ownsRow.alloc HO.out.1 _
        have hom := HO.out.2
        unfold lcells at hrx hba hox
        simp only [] at hrx hba hox
        obtain ⟨gx, hgx⟩ : ∃ g, g = wr.heap.size := ⟨_, rfl⟩
        rw [← hgx] at hrx ⊢
        obtain ⟨w2, hw2⟩ : ∃ w2, w2 = wr.alloc (.cells #[.int .u64 (v : Nat), .int .u64 (p : Nat), .int .i64 (xn : Nat), .bool bg, .bool wt, .bool ex] 47) := ⟨_, rfl⟩
        rw [← hw2] at hrx hba hox ⊢
        have HRX := Lib.hid hrx
        have HBA := Lib.hid hba
        have HOX := Lib.hid hox
        clear c0 c1' c2 c3 c4 c5 HB HO hrx hba hox hgx hw2 HF
        rcases Pg.snoc_cases out with rfl | ⟨a, y, rfl⟩
        · obtain rfl : m = 0 := hom.symm
          clear hom
          have d0 := HRX.out.cell 0
          have d1 := HRX.out.cell 1
          have d2 := HRX.out.cell 2
          have d3 := HRX.out.cell 3
          have d4 := HRX.out.cell 4
          have d5 := HRX.out.cell 5
          simp only [List.getElem?_cons_zero, List.getElem?_cons_succ] at d0 d1 d2 d3 d4 d5
          have hxl := HRX.out.lt
          have HR1 : Hid (Reads (w2.alloc (.cells #[.int .u64 (v : Nat), .int .u64 (p : Nat), .int .i64 (xn : Nat), .bool bg, .bool wt, .bool ex] 47)) (w2.alloc (.cells #[.int .u64 (v : Nat), .int .u64 (p : Nat), .int .i64 (xn : Nat), .bool bg, .bool wt, .bool ex] 47)).heap.size 6 (some ⟨w2.heap.size, 0, none⟩) 1 (lcells ⟨v, p, xn, bg, wt, ex⟩)) := Lib.hid (isL_one w2 ⟨v, p, xn, bg, wt, ex⟩ (by unfold Pg.Lf.In; simp only; omega)).1
          go_upto_region 15 with fail
          go_wp2_with (at_builtin; refine wpList_append_sl _ (by rfl) (.tmp 60) (.tmp 62) 48 rfl w.heap.size 47 i0 _ 6 32 Try.underlying48 HI.out HZ1.out HZ2.out HZ3.out rfl (by omega) (.slice A1 0 c1) 0 (lall []) rfl (HOX.out.alloc _) _ (some ⟨w2.heap.size, 0, none⟩) 1 1 (lcells ⟨v, p, xn, bg, wt, ex⟩) rfl HR1.out (oneCell_leaf _) (by unfold maxLen; omega) (by omega) (by simp; have := HBA.out.size; omega) ?_; intro A3 c3 w3 hown3 hrd3 hg3 hat3)
          go_roundw
          case rel =>
            refine ⟨k + 1, c3, 1, A3, Pg.runs1 [] ⟨v, p, xn, bg, wt, ex⟩, by omega, by omega, by go_num, rfl, Lib.hid ⟨?_, ?_⟩, Lib.hid HJO.out, HNX, Lib.hid ?_⟩
            · exact hown3
            · rfl
            · exact (HBA.out.alloc HBA.out.size _).grown hg3 (by simp; have := HBA.out.size; omega) (fun k hk => (HOX.out.lt k hk).1)
          case measure => simp [intOf]; omega
        · obtain ⟨L, hL⟩ : ∃ L, L = a.length := ⟨_, rfl⟩
          obtain rfl : m = L + 1 := by rw [← hom, hL]; simp
          obtain ⟨ha0, hy0⟩ := Pg.right_append.1 HRT0.out
          have hmlen : L + 1 ≤ 134217728 := by have := Pg.right_len HRT0.out (by omega); rw [List.length_append] at this; simp at this; omega
          obtain ⟨hyok, hya⟩ := Pg.right_one.1 hy0
          have HYOK := Lib.hid hyok
          have HAL := Lib.hid hL
          obtain ⟨g1, rfl, hBg, hg1l, hcc, hcm⟩ := own_some HOX.out (by simp)
          have hcells : ∀ j u, (lcells y)[j]? = some u → w2.cell? ⟨g1, L * 6 + j, none⟩ = some u := fun j u hu => by
            have hj : j < 6 := (List.getElem?_eq_some_iff.1 hu).1
            rw [show L * 6 + j = 6 * L + j by omega, World.ownsRow.cellAt HOX.out (6 * L + j) (by simp; omega), lall_at (k := L) (r := y) (by rw [hL]; simp) j hj, hu]
          have hmt := fun (wx : World) => eqlM wx y ⟨v, p, xn, bg, wt, ex⟩ _ _ rfl rfl
          have hy1 := hyok.n1
          have hy5 := hyok.vl
          have hy6 := hyok.pl
          have hy7 := (Pg.meets_iff (y := y) (x := ⟨v, p, xn, bg, wt, ex⟩)).1
          have hfr := World.ownsRow.frozenAt HOX.out (6 * L + 2)
          obtain ⟨yv, yp, yn', yb, yw, yx⟩ := y
          simp only at hy1 hy5 hy6 hmt hy7
          obtain ⟨yn, rfl⟩ : ∃ yn : Nat, yn' = yn := ⟨yn'.toNat, by omega⟩
          simp only [Int.toNat_natCast] at hy1 hy5 hy6 hmt hy7
          have e0 := hcells 0 _ rfl
          have e1 := hcells 1 _ rfl
          have e2 := hcells 2 _ rfl
          have e3 := hcells 3 _ rfl
          have e4 := hcells 4 _ rfl
          have e5 := hcells 5 _ rfl
          rw [Nat.add_zero] at e0
          rw [show 6 * L + 2 = L * 6 + 2 by omega] at hfr
          obtain ⟨V1, hV1⟩ : ∃ V, V = yv + yn * 4096 := ⟨_, rfl⟩
          obtain ⟨P1, hP1⟩ : ∃ V, V = yp + yn * 4096 := ⟨_, rfl⟩
          rw [← hV1, ← hP1] at hmt
          unfold lfV at hmt
          simp only [] at hmt
          obtain ⟨T, hT⟩ : ∃ T, T = Pg.meets ⟨yv, yp, yn, yb, yw, yx⟩ ⟨v, p, xn, bg, wt, ex⟩ := ⟨_, rfl⟩
          rw [← hT] at hmt hy7
          have q1 : IntKind.u64.wrap (yn : Int) = (yn : Int) := by rw [IntKind.wrap_u64]; omega
          have q2 : ((yn : Int) * 4096) % 18446744073709551616 = (yn : Int) * 4096 := by omega
          have q3 : IntKind.u64.wrap ((yn : Int) * 4096) = (yn : Int) * 4096 := by rw [IntKind.wrap_u64]; omega
          have q4 : ((yv : Int) + (yn : Int) * 4096) % 18446744073709551616 = (V1 : Int) := by omega
          have q5 : IntKind.u64.wrap ((yv : Int) + (yn : Int) * 4096) = (V1 : Int) := by rw [IntKind.wrap_u64]; omega
          have q6 : ((yp : Int) + (yn : Int) * 4096) % 18446744073709551616 = (P1 : Int) := by omega
          have q7 : IntKind.u64.wrap ((yp : Int) + (yn : Int) * 4096) = (P1 : Int) := by rw [IntKind.wrap_u64]; omega
          have q8 : ((yv : Int) + (yn : Int) * 4096) = (V1 : Int) := by omega
          have q9 : ((yp : Int) + (yn : Int) * 4096) = (P1 : Int) := by omega
          have HT := Lib.hid hT
          have HMT := Lib.hid hmt
          have HY7 := Lib.hid hy7
          have hxl := HRX.out.lt
          have d0 := HRX.out.cell 0
          have d1 := HRX.out.cell 1
          have d2 := HRX.out.cell 2
          have d3 := HRX.out.cell 3
          have d4 := HRX.out.cell 4
          have d5 := HRX.out.cell 5
          simp only [List.getElem?_cons_zero, List.getElem?_cons_succ] at d0 d1 d2 d3 d4 d5
          clear hL hom ha0 hy0 hyok hya hcells hmt hT hV1 hP1 hy7
          go_upto_region 12 with fail
          have hrl : Row ((w2.alloc (.cells #[.int .u64 (yv : Nat), .int .u64 (yp : Nat), .int .i64 (yn : Nat), .bool yb, .bool yw, .bool yx] 47)).alloc (.cells #[.int .u64 (yv : Nat), .int .u64 (yp : Nat), .int .i64 (yn : Nat), .bool yb, .bool yw, .bool yx] 47)) w2.heap.size 47 (lcells ⟨yv, yp, yn, yb, yw, yx⟩) := (Row.new w2 47 (lcells ⟨yv, yp, yn, yb, yw, yx⟩)).alloc _
          have hrn : Row ((w2.alloc (.cells #[.int .u64 (yv : Nat), .int .u64 (yp : Nat), .int .i64 (yn : Nat), .bool yb, .bool yw, .bool yx] 47)).alloc (.cells #[.int .u64 (yv : Nat), .int .u64 (yp : Nat), .int .i64 (yn : Nat), .bool yb, .bool yw, .bool yx] 47)) (w2.heap.size + 1) 47 (lcells ⟨yv, yp, yn, yb, yw, yx⟩) := by
            have h := Row.new (w2.alloc (.cells #[.int .u64 (yv : Nat), .int .u64 (yp : Nat), .int .i64 (yn : Nat), .bool yb, .bool yw, .bool yx] 47)) 47 (lcells ⟨yv, yp, yn, yb, yw, yx⟩)
            rw [show (w2.alloc (.cells #[.int .u64 (yv : Nat), .int .u64 (yp : Nat), .int .i64 (yn : Nat), .bool yb, .bool yw, .bool yx] 47)).heap.size = w2.heap.size + 1 by simp] at h
            exact h
          have hb4 : Below w2.heap.size w2 ((w2.alloc (.cells #[.int .u64 (yv : Nat), .int .u64 (yp : Nat), .int .i64 (yn : Nat), .bool yb, .bool yw, .bool yx] 47)).alloc (.cells #[.int .u64 (yv : Nat), .int .u64 (yp : Nat), .int .i64 (yn : Nat), .bool yb, .bool yw, .bool yx] 47)) := ((Below.refl w2.heap.size w2).alloc (Nat.le_refl _) _).alloc (by simp) _
          have hbs := HBA.out.size
          obtain ⟨gl, hgl⟩ : ∃ g, g = w2.heap.size := ⟨_, rfl⟩
          have hgn1 : gl ≠ gl + 1 := by omega
          have hgn2 : gx ≠ gl + 1 := by omega
          have hgn3 : g1 ≠ gl + 1 := by omega
          have hgw : w.heap.size ≤ gl + 1 := by omega
          have hgw2 : w2.heap.size ≤ gl + 1 := by omega
          have x2' := HRX.out.cell 2
          rw [← hgl] at hrl hrn ⊢
          obtain ⟨w4, hw4⟩ : ∃ w4, w4 = (w2.alloc (.cells #[.int .u64 (yv : Nat), .int .u64 (yp : Nat), .int .i64 (yn : Nat), .bool yb, .bool yw, .bool yx] 47)).alloc (.cells #[.int .u64 (yv : Nat), .int .u64 (yp : Nat), .int .i64 (yn : Nat), .bool yb, .bool yw, .bool yx] 47) := ⟨_, rfl⟩
          rw [← hw4] at hrl hrn hb4 ⊢
          obtain ⟨gn, hgn⟩ : ∃ g, g = gl + 1 := ⟨_, rfl⟩
          rw [← hgn] at hrn hgn1 hgn2 hgn3 hgw hgw2 ⊢
          have HRL := Lib.hid hrl; have HRN := Lib.hid hrn; have HB4 := Lib.hid hb4
          have l0 := hrl.cell 0
          have l1 := hrl.cell 1
          have n0 := hrn.cell 0
          have n1 := hrn.cell 1
          have n2 := hrn.cell 2
          have n3 := hrn.cell 3
          have n4 := hrn.cell 4
          have n5 := hrn.cell 5
          have z0 := hrn.frozen 0
          have z1 := hrn.frozen 1
          have z2 := hrn.frozen 2
          have x2 := (HRX.out.below hb4 hxl).cell 2
          have hll := hrl.lt; have hnl := hrn.lt; have hxl4 := (HRX.out.below hb4 hxl).lt
          simp only [lcells, List.getElem?_cons_zero, List.getElem?_cons_succ] at l0 l1 n0 n1 n2 n3 n4 n5 x2
          clear e0 e1 e2 e3 e4 e5 d0 d1 d2 d3 d4 d5 hrl hrn hb4 hw4 hgl hgn hfr x2'
          go_region
          have hb5 : Below w2.heap.size w2 (((w4.setCell ⟨gn, 0, none⟩ (.int .u64 (V1 : Nat))).setCell ⟨gn, 1, none⟩ (.int .u64 (P1 : Nat))).setCell ⟨gn, 2, none⟩ (.int .i64 (xn : Nat))).drew := (((HB4.out.setCell (p := ⟨gn, 0, none⟩) hgw2 _).setCell (p := ⟨gn, 1, none⟩) hgw2 _).setCell (p := ⟨gn, 2, none⟩) hgw2 _).drew
          have hrn5 : Row (((w4.setCell ⟨gn, 0, none⟩ (.int .u64 (V1 : Nat))).setCell ⟨gn, 1, none⟩ (.int .u64 (P1 : Nat))).setCell ⟨gn, 2, none⟩ (.int .i64 (xn : Nat))).drew gn 47 [.int .u64 (V1 : Nat), .int .u64 (P1 : Nat), .int .i64 (xn : Nat), .bool yb, .bool yw, .bool yx] := ((HRN.out.set_ 0 _).set_ 1 _).set_ 2 _
          generalize (((w4.setCell ⟨gn, 0, none⟩ (.int .u64 (V1 : Nat))).setCell ⟨gn, 1, none⟩ (.int .u64 (P1 : Nat))).setCell ⟨gn, 2, none⟩ (.int .i64 (xn : Nat))).drew = w5 at *
          have HB5 := Lib.hid hb5
          clear l0 l1 n0 n1 n2 n3 n4 n5 z0 z1 z2 x2 hll hnl hxl4 HRL HRN HB4
          have n0 := hrn5.cell 0
          have n1 := hrn5.cell 1
          have n2 := hrn5.cell 2
          have n3 := hrn5.cell 3
          have n4 := hrn5.cell 4
          have n5 := hrn5.cell 5
          have hnl := hrn5.lt
          have hrx5 := HRX.out.below hb5 hxl
          have d0 := hrx5.cell 0
          have d1 := hrx5.cell 1
          have d2 := hrx5.cell 2
          have d3 := hrx5.cell 3
          have d4 := hrx5.cell 4
          have d5 := hrx5.cell 5
          have hxl5 := hrx5.lt
          simp only [List.getElem?_cons_zero, List.getElem?_cons_succ] at n0 n1 n2 n3 n4 n5 d0 d1 d2 d3 d4 d5
          have hmt := HMT.out
          have HOX5 : Hid (OwnL w5 w.heap.size (some ⟨g1, 0, none⟩) c1 (a ++ [⟨yv, yp, yn, yb, yw, yx⟩])) := Lib.hid (owns_below HOX.out hb5)
          have HBA5 : Hid (Below w.heap.size w w5) := Lib.hid (HBA.out.trans (hb5.mono HBA.out.size))
          have e2 : w5.cell? ⟨g1, L * 6 + 2, none⟩ = some (.int .i64 (yn : Nat)) := by
            rw [show L * 6 + 2 = 6 * L + 2 by omega, World.ownsRow.cellAt HOX5.out (6 * L + 2) (by simp; have := HAL.out; omega), lall_at (k := L) (r := ⟨yv, yp, yn, yb, yw, yx⟩) (by rw [HAL.out]; simp) 2 (by omega)]
            rfl
          have hfr : w5.frozen? ⟨g1, L * 6 + 2, none⟩ = false := World.ownsRow.frozenAt HOX5.out _
          have hg15 : g1 < w5.heap.size := Nat.lt_of_lt_of_le hg1l hb5.size
          clear hb5 hrn5 hrx5 HRX HOX HBA q1 q2 q3 q4 q5 q6 q7 q8 q9 hgn1 hgn2 hgn3
          unfold maxLen at hcm
          have HMT2 := Lib.hid hmt
          clear hmt
          go_upto_region 13 with fail
          go_cut [48] (fun x wx => x = .bool T ∧ wx = w5)
          case first =>
            go_wp2_with (refine wpList_bin (by rfl) .eql 47 (.tmp 46) (.tmp 47) _ rfl (by rfl) (by rfl) guardLeaf (HMT2.out _) ?_)
            go_meet
            case rel => exact ⟨rfl, rfl⟩
          case rest =>
            obtain ⟨rfl, hwx⟩ := hcut
            rw [hwx]
            clear hwx HMT2
            cases hTT : T with
            | true =>
              obtain ⟨m1, m2, _⟩ := HY7.out hTT
              have h9 : yn + xn < 9223372036854775808 := by have := hr5; omega
              have r1 : IntKind.i64.wrap ((yn : Int) + (xn : Int)) = (yn : Int) + (xn : Int) := by rw [IntKind.wrap_i64]; omega
              have HMS : Hid (Pg.runs1 (a ++ [⟨yv, yp, yn, yb, yw, yx⟩]) ⟨v, p, xn, bg, wt, ex⟩ = a ++ [⟨yv, yp, (yn : Int) + (xn : Int), yb, yw, yx⟩]) := Lib.hid (by
                rw [Pg.runs1_snoc, if_pos (by rw [← HT.out, hTT])]; rfl)
              have HOXS : Hid (OwnL (w5.setCell ⟨g1, L * 6 + 2, none⟩ (.int .i64 ((yn : Int) + (xn : Int)))) w.heap.size (some ⟨g1, 0, none⟩) c1 (a ++ [⟨yv, yp, (yn : Int) + (xn : Int), yb, yw, yx⟩])) := Lib.hid (by
                have h := (World.ownsRow.stored HOX5.out (6 * L + 2) (.int .i64 ((yn : Int) + (xn : Int)))).1
                rw [HAL.out, lall_set] at h
                rw [show L * 6 + 2 = 6 * a.length + 2 by rw [← HAL.out]; omega]
                unfold OwnL
                rw [show (a ++ [(⟨yv, yp, (yn : Int) + (xn : Int), yb, yw, yx⟩ : Pg.Lf)]).length = (a ++ [(⟨yv, yp, yn, yb, yw, yx⟩ : Pg.Lf)]).length by simp]
                exact h)
              clear m1 m2
              go_wp2_with fail
              go_region
              go_wp2_with fail
              go_roundw
              case rel =>
                refine ⟨k + 1, c1, L + 1, some ⟨g1, 0, none⟩, Pg.runs1 (a ++ [⟨yv, yp, yn, yb, yw, yx⟩]) ⟨v, p, xn, bg, wt, ex⟩, by omega, by omega, by go_num, rfl, Lib.hid ⟨?_, ?_⟩, Lib.hid HJO.out, HNX, Lib.hid ?_⟩
                · rw [HMS.out]; exact World.ownsRow.drew HOXS.out
                · rw [HMS.out, HAL.out]; simp
                · exact (HBA5.out.setCell (p := ⟨g1, L * 6 + 2, none⟩) hBg _).drew
              case measure => simp [intOf]; omega
            | false =>
              have HMS : Hid (Pg.runs1 (a ++ [⟨yv, yp, yn, yb, yw, yx⟩]) ⟨v, p, xn, bg, wt, ex⟩ = a ++ [⟨yv, yp, yn, yb, yw, yx⟩] ++ [⟨v, p, xn, bg, wt, ex⟩]) := Lib.hid (by
                rw [Pg.runs1_snoc, if_neg (by rw [← HT.out, hTT]; simp)])
              have HR1 : Hid (Reads (w5.alloc (.cells #[.int .u64 (v : Nat), .int .u64 (p : Nat), .int .i64 (xn : Nat), .bool bg, .bool wt, .bool ex] 47)) (w5.alloc (.cells #[.int .u64 (v : Nat), .int .u64 (p : Nat), .int .i64 (xn : Nat), .bool bg, .bool wt, .bool ex] 47)).heap.size 6 (some ⟨w5.heap.size, 0, none⟩) 1 (lcells ⟨v, p, xn, bg, wt, ex⟩)) := Lib.hid (isL_one w5 ⟨v, p, xn, bg, wt, ex⟩ (by unfold Pg.Lf.In; simp only; omega)).1
              have HOX6 : Hid (w5.ownsRow w.heap.size 47 6 (.slice (some ⟨g1, 0, none⟩) (L + 1) c1) (L + 1) (lall (a ++ [⟨yv, yp, yn, yb, yw, yx⟩]))) := Lib.hid (by
                have h := HOX5.out
                unfold OwnL at h
                rw [show (a ++ [(⟨yv, yp, yn, yb, yw, yx⟩ : Pg.Lf)]).length = L + 1 by rw [HAL.out]; simp] at h
                exact h)
              skip
              go_upto_region 15 with fail
              clear n0 n1 n2 n3 n4 n5
              go_wp2_with (at_builtin; refine wpList_append_sl _ (by rfl) (.tmp 60) (.tmp 62) 48 rfl w.heap.size 47 i0 _ 6 32 Try.underlying48 HI.out HZ1.out HZ2.out HZ3.out rfl (by omega) (.slice (some ⟨g1, 0, none⟩) (L + 1) c1) (L + 1) (lall (a ++ [⟨yv, yp, yn, yb, yw, yx⟩])) rfl (HOX6.out.alloc _) _ (some ⟨w5.heap.size, 0, none⟩) 1 1 (lcells ⟨v, p, xn, bg, wt, ex⟩) rfl HR1.out (oneCell_leaf _) (by unfold maxLen; omega) (by omega) (by simp; have := HBA5.out.size; omega) ?_; intro A3 c3 w3 hown3 hrd3 hg3 hat3)
              go_roundw
              case rel =>
                refine ⟨k + 1, c3, L + 1 + 1, A3, Pg.runs1 (a ++ [⟨yv, yp, yn, yb, yw, yx⟩]) ⟨v, p, xn, bg, wt, ex⟩, by omega, by omega, by go_num, rfl, Lib.hid ⟨?_, ?_⟩, Lib.hid HJO.out, HNX, Lib.hid ?_⟩
                · rw [HMS.out]
                  unfold OwnL
                  rw [show (a ++ [(⟨yv, yp, yn, yb, yw, yx⟩ : Pg.Lf)] ++ [(⟨v, p, xn, bg, wt, ex⟩ : Pg.Lf)]).length = L + 1 + 1 by rw [HAL.out]; simp, lall_snoc]
                  exact hown3
                · rw [HMS.out, HAL.out]; simp
                · exact (HBA5.out.alloc HBA5.out.size _).grown hg3 (by simp; have := HBA5.out.size; omega) (fun k hk => (HOX6.out.lt k hk).1)
              case measure => simp [intOf]; omega
      · have HK : Hid (k = n) := Lib.hid (by omega)
        have hj := HJ.out
        rw [HK.out, List.drop_of_length_le (Nat.le_of_eq HL.out)] at hj
        have HJ2 : Hid (Pg.runs rows = out) := Lib.hid (by rw [Pg.runs_ok HR0.out, hj]; rfl)
        have HM := Lib.hid HO.out.2
        clear hj HJ HSR
        go_wp2_with fail
        go_ret
        refine ⟨A1, c1, ?_, ?_, HB.out⟩
        · rw [HJ2.out, HM.out]; rfl
        · rw [HJ2.out]; exact HO.out.1
  · have f0 : ((R : Int) != 0) = true := by rw [bne_iff_ne]; omega
    have HR := Lib.hid hR
    have HNZ := Lib.hid h0
    clear hR h0
    go_wp2_with fail
    go_ret
    have ha : Pg.runs rows = [] := by
      unfold Pg.runs
      rw [if_pos (by rw [← HR.out]; exact HNZ.out)]
    rw [ha]
    exact ⟨none, 0, rfl, own_nil _ _ _ _, HB1.out⟩
end Go.Proofs.Ytblfagmoilhdnaa

/- The walks of Same over tables and rows, and of few. -/
set_option linter.unusedVariables false
set_option linter.unusedSimpArgs false
namespace Go.Proofs.Ytblfagmoilhdnaa
open Go.RowKit

theorem quiet_wanted {P : Program} {ops : Array Oper} {C : World → Prop} {Q : Act → Prop} {a : Act} {o : Oper} {rest : List Oper} (hw : Region.wanted o (yielded ops a.tmps) = true) (h : ∀ K : Act → Prop, (∀ a, wpQuiet P ops C Q rest a → K a) → o.quiet P a C K) : wpQuiet P ops C Q (o :: rest) a :=
  wpQuiet_step fun K hK => by rw [if_pos hw]; exact h K hK
theorem quiet_load_mid {P : Program} {o : Oper} {a : Act} {C : World → Prop} {K : Act → Prop} (ty : TypeId) (x : Operand) (ho : o.op = .load ty x) (b k : Nat) (hx : a.eval x = .pointer (some ⟨b, k, none⟩)) (cs : List Value) (d : TypeDesc) (hc : ∀ w, C w → w.rangeAt b k cs)
    (hu : P.underlying ty = some d) (hd : d.isRow = true) (hi : (P.info? ty).map (·.size) = some cs.length) (hk : K (a.put o.dst (.agg cs.toArray))) : o.quiet P a C K :=
  ⟨_, fun w hw => by
    unfold Oper.quietAt execOp
    simp only [ho, hx, Instr.loadAt, Instr.sureAddr, Sem.run_bind, Sem.run_pure, Result.andThen_ok, run_loadVar_mid w b k ty cs d (hc w hw) hu hd hi]
    exact ⟨rfl, rfl⟩, hk⟩
theorem quiet_bin {P : Program} {o : Oper} {a : Act} {C : World → Prop} {K : Act → Prop} (b : BinOp) (t : TypeId) (x y : Operand) (s : TypeId) (ho : o.op = .binOp b t x y s) {xs ys : Array Value} {v : Value} (hx : a.eval x = .agg xs) (hy : a.eval y = .agg ys) (hm : P.eqGuardType P.depth t = false)
    (hrun : ∀ w, (binOp b t (.agg xs) (.agg ys)).run P w = .ok v w) (hk : K (a.put o.dst v)) : o.quiet P a C K :=
  ⟨_, fun w hw => by
    unfold Oper.quietAt execOp
    simp only [ho, hx, hy, Sem.run_bind, run_eqGuard_agg (hm := hm), hrun, Result.andThen_ok, Sem.run_pure]
    exact ⟨rfl, rfl⟩, hk⟩
theorem guardTab : Try.prog.eqGuardType Try.prog.depth 24 = false := by kernel_rfl
theorem neqT (V : List Value) (hV : ∀ i, i < V.length → ∃ n, V[i]? = some (.int .u64 n)) (hl : V.length = 512) (w : World) : (binOp .neq 24 (.agg V.toArray) (.agg V.toArray)).run Try.prog w = .ok (.bool false) w := by
  have heq := tab_eq_self V hV hl w
  go_simp
theorem neqL (w : World) (a : Pg.Lf) : (binOp .neq 47 (lfV a) (lfV a)).run Try.prog w = .ok (.bool false) w := by
  obtain ⟨a1, a2, a3, a4, a5, a6⟩ := a
  unfold lfV
  go_simp
theorem u64V_at (t : List Nat) (i : Nat) (h : i < (t.map u64v).length) : ∃ n, (t.map u64v)[i]? = some (.int .u64 n) := by
  rw [List.length_map] at h
  exact ⟨_, by rw [List.getElem?_map, List.getElem?_eq_getElem h]; rfl⟩
/-- a list of tables, read -/
def HasT (w : World) (A : Option Addr) (l : List (List Nat)) : Prop := Tabs l ∧ l.length ≤ 9223372036854775807 ∧ (0 < l.length → ∃ g, A = some ⟨g, 0, none⟩ ∧ g < w.heap.size ∧ ∀ t, t < l.length → w.rangeAt g (t * 512) ((l.getD t []).map u64v))
theorem IsT.has {w w' : World} {A : Option Addr} {c : Nat} {l : List (List Nat)} (h : IsT w w' A c l) (hl : l.length ≤ 9223372036854775807) : HasT w' A l := by
  refine ⟨h.2.1, hl, fun h0 => ?_⟩
  obtain ⟨g, rfl, _, h2, _, _, hc⟩ := h.form h0
  refine ⟨g, rfl, h2, fun t ht j v hv => ?_⟩
  have hm : l.getD t [] ∈ l := by simp [List.getD_eq_getElem?_getD, ht]
  have hlen := (h.2.1 _ hm).1
  have hj : j < 512 := by have := (List.getElem?_eq_some_iff.1 hv).1; rw [List.length_map, hlen] at this; exact this
  rw [hc t j ht hj, ← hv, List.getElem?_map, List.getD_eq_getElem?_getD (l := l.getD t []), List.getElem?_eq_getElem (by rw [hlen]; exact hj)]
  rfl
theorem HasT.below {w w' : World} {A : Option Addr} {l : List (List Nat)} (h : HasT w A l) (hb : Below w.heap.size w w') : HasT w' A l := by
  refine ⟨h.1, h.2.1, fun h0 => ?_⟩
  obtain ⟨g, rfl, h2, hc⟩ := h.2.2 h0
  exact ⟨g, rfl, Nat.lt_of_lt_of_le h2 hb.size, fun t ht j v hv => (hb.cell (p := ⟨g, t * 512 + j, none⟩) h2).trans (hc t ht j v hv)⟩
set_option maxRecDepth 100000 in
set_option maxHeartbeats 1000000 in
theorem sameT_yes (A A' : Option Addr) (n c c' : Nat) (l : List (List Nat)) (w : World) (hn : n = l.length) (ha : HasT w A l) (hb : HasT w A' l) :
    Calls Try.prog 29 #[.slice A n c, .slice A' n c'] w fun e w' => e = .returned (.bool true) ∧ ∃ m, w' = w.drewN m := by
  have HN := Lib.hid hn
  have HA := Lib.hid ha
  have HB := Lib.hid hb
  have hn63 := ha.2.1
  rw [← hn] at hn63
  clear hn ha hb
  go_enter Try.func29, Try.ntmps29
  go_wp2
  go_loopw [5] (fun i wr => ∃ j m : Nat, j ≤ n ∧ i = .int .i64 j ∧ wr = w.drewN m) (fun i _ => n - (intOf i).toNat)
  case atStart => exact ⟨0, 0, by omega, rfl, rfl⟩
  case round =>
    obtain ⟨j, m, hj, rfl, rfl⟩ := hrel
    by_cases hjn : j < n
    · obtain ⟨g, rfl, hg, hc⟩ := HA.out.2.2 (by rw [← HN.out]; omega)
      obtain ⟨g', rfl, hg', hc'⟩ := HB.out.2.2 (by rw [← HN.out]; omega)
      have h1 := hc j (by rw [← HN.out]; omega)
      have h2 := hc' j (by rw [← HN.out]; omega)
      have hm : l.getD j [] ∈ l := by simp [List.getD_eq_getElem?_getD, show j < l.length by rw [← HN.out]; omega]
      have hlen := (HA.out.1 _ hm).1
      have hne := fun wx => neqT ((l.getD j []).map u64v) (u64V_at _) (by rw [List.length_map, hlen]) wx
      obtain ⟨V, hV⟩ : ∃ V, V = (l.getD j []).map u64v := ⟨_, rfl⟩
      rw [← hV] at h1 h2 hne
      have HVL : Hid (V.length = 512) := Lib.hid (by rw [hV, List.length_map, hlen])
      have HNE := Lib.hid hne
      have H1 : Hid (∀ w' : World, (∃ k, w' = (w.drewN m).drewN k) → w'.rangeAt g (j * 512) V) := Lib.hid (by rintro w' ⟨k, rfl⟩; exact h1)
      have H2 : Hid (∀ w' : World, (∃ k, w' = (w.drewN m).drewN k) → w'.rangeAt g' (j * 512) V) := Lib.hid (by rintro w' ⟨k, rfl⟩; exact h2)
      clear hc hc' h1 h2 hm hlen hne hV HA HB
      go_wp2_with fail
      refine wp_region_quiet_lit (by kernel_rfl) (by kernel_rfl) ?_
      repeat (first
        | (refine quiet_wanted (by rfl) (fun K hK => ?_)
           first
             | refine quiet_load_mid _ _ rfl _ _ (by rfl) V (.array 512 22) H1.out Try.underlying24 rfl (by rw [infoTab, HVL.out]) (hK _ ?_)
             | refine quiet_load_mid _ _ rfl _ _ (by rfl) V (.array 512 22) H2.out Try.underlying24 rfl (by rw [infoTab, HVL.out]) (hK _ ?_)
             | refine quiet_bin .neq 24 (.tmp 20) (.tmp 24) _ rfl (by rfl) (by rfl) guardTab HNE.out (hK _ ?_))
        | quiet_step (fail))
      refine wpQuiet_nil ?_
      rintro w' ⟨nq, rfl⟩
      go_wp2
      go_roundw
      case rel => exact ⟨j + 1, _, by omega, by go_num, rfl⟩
      case measure => simp [intOf]; omega
    · have HJ : Hid (j = n) := Lib.hid (by omega)
      go_wp2
      go_ret
      exact ⟨rfl, _, rfl⟩
theorem OwnL.isL {w : World} {B c : Nat} {A : Option Addr} {l : List Pg.Lf} (h : OwnL w B A c l) (hi : ∀ r ∈ l, r.In) (hl : l.length ≤ 9223372036854775807) : IsL w w.heap.size A l.length l := ⟨Reads.of_own h, hi, rfl, hl⟩
set_option maxRecDepth 100000 in
set_option maxHeartbeats 1000000 in
theorem sameL_yes (A A' : Option Addr) (n c c' : Nat) (l : List Pg.Lf) (w : World) (ha : IsL w w.heap.size A n l) (hb : IsL w w.heap.size A' n l) :
    Calls Try.prog 30 #[.slice A n c, .slice A' n c'] w fun e w' => e = .returned (.bool true) ∧ ∃ m, w' = w.drewN m := by
  obtain ⟨b, off, HA⟩ := ha.form
  obtain ⟨b', off', HB⟩ := hb.form
  have HL := Lib.hid ha.2.2.1
  have hn63 := ha.2.2.2
  clear ha hb
  go_enter Try.func30, Try.ntmps30
  go_wp2
  go_loopw [5] (fun i wr => ∃ j m : Nat, j ≤ n ∧ i = .int .i64 j ∧ wr = w.drewN m) (fun i _ => n - (intOf i).toNat)
  case atStart => exact ⟨0, 0, by omega, rfl, rfl⟩
  case round =>
    obtain ⟨j, m, hj, rfl, rfl⟩ := hrel
    by_cases hjn : j < n
    · obtain ⟨rfl, hg, hc⟩ := HA.out (by omega)
      obtain ⟨rfl, hg', hc'⟩ := HB.out (by omega)
      obtain ⟨r, hrk⟩ : ∃ r, l[j]? = some r := ⟨_, List.getElem?_eq_getElem (by have := HL.out; omega)⟩
      have c0 := hc j r hrk 0 _ rfl
      have c1 := hc j r hrk 1 _ rfl
      have c2 := hc j r hrk 2 _ rfl
      have c3 := hc j r hrk 3 _ rfl
      have c4 := hc j r hrk 4 _ rfl
      have c5 := hc j r hrk 5 _ rfl
      have d0 := hc' j r hrk 0 _ rfl
      have d1 := hc' j r hrk 1 _ rfl
      have d2 := hc' j r hrk 2 _ rfl
      have d3 := hc' j r hrk 3 _ rfl
      have d4 := hc' j r hrk 4 _ rfl
      have d5 := hc' j r hrk 5 _ rfl
      obtain ⟨v, p, q, bg, wt, ex⟩ := r
      have hne := fun wx => neqL wx ⟨v, p, q, bg, wt, ex⟩
      unfold lfV at hne
      simp only [Nat.add_zero] at c0 d0 hne
      clear hc hc' HA HB
      go_wp2_with fail
      go_quiet (fail)
      go_wp2
      go_roundw
      case rel => exact ⟨j + 1, _, by omega, by go_num, rfl⟩
      case measure => simp [intOf]; omega
    · have HJ : Hid (j = n) := Lib.hid (by omega)
      go_wp2
      go_ret
      exact ⟨rfl, _, rfl⟩
def AnyBool (e : Ending) : Prop := ∃ b, e = .returned (.bool b)
/-- few: either answer -/
theorem few_some (A : Option Addr) (n c : Nat) (rows : List Pg.Lf) (w : World) (hr : IsL w w.heap.size A n rows) (hrt : Pg.right 0 rows = 0) :
    Calls Try.prog 22 #[.slice A n c] w fun e w' => AnyBool e ∧ w' = w := by
  obtain ⟨b, off, HF⟩ := hr.form
  have HL := Lib.hid hr.2.2.1
  have hn := hr.2.2.2
  have HRT := Lib.hid hrt
  clear hr hrt
  go_enter Try.func22, Try.ntmps22
  go_wp2
  go_loopw [3, 4] (fun x i wr => ∃ j X : Nat, j ≤ n ∧ i = .int .i64 j ∧ x = .int .i64 X ∧ X ≤ 135266304 ∧ wr = w) (fun _ i _ => n - (intOf i).toNat)
  case atStart => exact ⟨0, 0, by omega, rfl, rfl, by omega, rfl⟩
  case round =>
    obtain ⟨j, X, hj, rfl, rfl, hX, rfl⟩ := hrel
    by_cases hjn : j < n
    · obtain ⟨rfl, hg, hc⟩ := HF.out (by omega)
      obtain ⟨r, hrk⟩ : ∃ r, rows[j]? = some r := ⟨_, List.getElem?_eq_getElem (by have := HL.out; omega)⟩
      have hok := Pg.right_all HRT.out r (List.mem_of_getElem? hrk)
      have c2 := hc j r hrk 2 _ rfl
      have h1 := hok.n1
      have h5 := hok.vl
      obtain ⟨v, p, q, bg, wt, ex⟩ := r
      simp only at h1 h5
      obtain ⟨xn, rfl⟩ : ∃ xn : Nat, q = xn := ⟨q.toNat, by omega⟩
      simp only [Int.toNat_natCast] at h1 h5
      have h6 : xn ≤ 134217728 := by omega
      clear hc HF HRT hrk hok h5
      by_cases hx : X ≤ 1048576
      · go_wp2
        go_roundw
        case rel => exact ⟨j + 1, X + xn, by omega, by go_num, by go_num, by omega, trivial⟩
        case measure => simp [intOf]; omega
      · go_wp2
        go_ret
        first | exact ⟨_, rfl⟩ | exact ⟨⟨_, rfl⟩, rfl⟩
    · go_wp2
      all_goals
        go_ret
        first | exact ⟨_, rfl⟩ | exact ⟨⟨_, rfl⟩, rfl⟩
end Go.Proofs.Ytblfagmoilhdnaa
