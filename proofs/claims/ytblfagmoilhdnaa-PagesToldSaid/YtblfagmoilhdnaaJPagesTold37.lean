/- Texts of this claim, one behind the other: PtC. -/
import Derived.Test.YtblfagmoilhdnaaJPagesTold36
import Derived.Test.YtblfagmoilhdnaaJPagesTold34
import Derived.Test.YtblfagmoilhdnaaJPagesTold32
import Derived.Test.YtblfagmoilhdnaaJPagesTold23
import Derived.Test.YtblfagmoilhdnaaJPagesTold27
import Derived.Test.YtblfagmoilhdnaaJPagesTold26
import Derived.Deep.Cut
import Derived.Deep.DeepCutAuto
/- The walk of the law's told. -/
set_option linter.unusedVariables false
set_option linter.unusedSimpArgs false
namespace Go.Proofs.Ytblfagmoilhdnaa
open Go.RowKit
open S64
open Bu
attribute [local go_sem] Oper.semAt_some
theorem eql_fn (w : World) (a b c : Value) : (binOp .eql 124 (.func (.func 80) #[] #[a, b, c]) .nilFunc).run Try.prog w = .ok (.bool false) w := by kernel_rfl
theorem Pg.ansB_le' (rows : List Pg.Lf) (base : Nat) : (Pg.ansB rows base).1.length ≤ 1024 := by
  unfold Pg.ansB
  simp only
  split
  · simp
  · split
    · simp
    · split
      · simp
      · rename_i h _ _
        exact (Pg.ans_len rows _ (by simpa using h)).2
theorem owns_chgP {Y : Nat → Prop} {w w' : World} {base : Nat} {e : TypeId} {size n : Nat} {v : Value} {xs : List Value} (h : w.ownsRow base e size v n xs) (hc : ChgP Y w w') (hr : ∀ k, base ≤ k → ¬ Y k) : w'.ownsRow base e size v n xs := by
  refine ⟨h.1, ?_⟩
  rcases h.2 with h2 | ⟨g, cap, cur, hv, hg, hh, r⟩
  · exact .inl h2
  · refine .inr ⟨g, cap, cur, hv, hg, ?_, r⟩
    rw [hc.block g (Blk.lt (cs := cur) hh) (hr g hg)]; exact hh
theorem reads_new (w : World) (r : Pg.Lf) : ∀ (j : Nat) (u : Value), (lcells r)[j]? = some u → (w.alloc (.cells (lcells r).toArray 47)).cell? ((⟨w.heap.size, 0, none⟩ : Addr).add j) = some u := by
  intro j u hu
  have h := (Row.new w 47 (lcells r)).cell j
  unfold Addr.add
  split
  · rename_i h0; subst h0; rw [h]; exact hu
  · rw [Nat.zero_add, h]; exact hu
theorem Pg.runs_in' {rows : List Pg.Lf} : (∀ r ∈ Pg.runs rows, r.In) ∧ (Pg.runs rows).length ≤ 134217728 := by
  by_cases h : Pg.right 0 rows = 0
  · have hr := (Pg.runs_right h).1
    exact ⟨fun r hm => Pg.In_of (Pg.right_all hr r hm), by have := Pg.right_len hr (by omega); omega⟩
  · have : Pg.runs rows = [] := by unfold Pg.runs; rw [if_pos (by simpa using h)]
    rw [this]
    simp
def lvRow (l : Lv) : Pg.Lf := ⟨l.v, l.p, (l.n : Nat), l.b, l.w, l.x⟩
def toldI (go r0 lo : Nat) (w : World) (pre : List Lv) (W : World) : Prop := ∃ A c, Row W go 48 [.slice A (pre.map lvRow).length c] ∧ OwnL W lo A c (pre.map lvRow) ∧ Row W r0 4 [.bool false] ∧ Below w.heap.size w W
def toldA (lo : Nat) (a : Act) (x : Lv) (a' : Act) (W : World) : Prop := ∃ Bx, lo ≤ Bx ∧ Row W Bx 47 (lcells (lvRow x)) ∧ a' = { tmps := (((a.tmps.setIfInBounds 80 (lvV x)).setIfInBounds 81 (.int .i64 (x.no : Nat))).setIfInBounds 16 (.pointer (some ⟨Bx, 0, none⟩))).setIfInBounds 17 (.int .i64 (x.no : Nat)), defers := [] }
theorem toldI_ab {go r0 lo : Nat} {w : World} {T : Nat → Prop} (h1 : ¬ T go) (h2 : ¬ T r0) (h3 : ∀ k, lo ≤ k → ¬ T k) (h4 : ∀ k, T k → w.heap.size ≤ k) : AbC T (toldI go r0 lo w) := by
  rintro pre W W' ⟨A, c, hr, ho, hb, hl⟩ hc
  exact ⟨A, c, hc.row hr h1, owns_chgP ho hc h3, hc.row hb h2, hl.trans (hc.below hl.size h4)⟩
theorem toldA_ab {lo : Nat} {a : Act} {x : Lv} {a' : Act} {T : Nat → Prop} (h3 : ∀ k, lo ≤ k → ¬ T k) : AbC T (fun (_ : Unit) W => toldA lo a x a' W) := by
  rintro _ W W' ⟨Bx, h1, h2, h⟩ hc
  exact ⟨Bx, h1, hc.row h2 (h3 _ h1), h⟩
set_option maxRecDepth 100000 in
set_option maxHeartbeats 4000000 in
theorem told_any (A : Option Addr) (n c base : Nat) (rows : List Pg.Lf) (must : Bool) (w : World) (hr : IsL w w.heap.size A n rows) (hbl : base < 18446744073709551616)
    (hmust : must = true → Pg.right 0 rows = 0 ∧ Pg.sumN rows ≤ 5000 ∧ (Pg.ansB rows base).2 = 0)
    (hfew : must = true → ∀ wx, Below w.heap.size w wx → Calls Try.prog 22 #[.slice A n c] wx fun e w' => e = .returned (.bool true) ∧ w' = wx) :
    Calls Try.prog 35 #[.slice A n c, .int .u64 (base : Nat), .bool must] w fun e w' => e = .returned (.bool true) ∧ Below w.heap.size w w' := by
  have HR := Lib.hid hr
  have hn63 := hr.2.2.2
  have HL := Lib.hid hr.2.2.1
  obtain ⟨b, off, HF⟩ := hr.form
  have HMU := Lib.hid hmust; have HFE := Lib.hid hfew
  clear hr hmust hfew
  have hdd : ∀ k : Nat, (Fence.wide.depth.isSome = true → 1 ≤ k) := fun k h => by cases h
  refine (callsIn_wide (n := 3)).1 ?_
  refine callsIn_of_wp_marks Try.func35 rfl trivial ?_ rfl
  simp only [Try.ntmps35, List.size_toArray, List.length_cons, List.length_nil, Nat.reduceAdd, Nat.reduceSub, Array.replicate_succ, Array.replicate_zero, List.push_toArray, List.append_toArray, List.nil_append, List.cons_append]
  gi_upto_region 1 with fail
  have hrow := Row.new w 4 [.bool false]
  have hb1 : Below w.heap.size w (w.alloc (.cells #[.bool false] 4)) := (Below.refl _ _).alloc (Nat.le_refl _) _
  have hs1 : (w.alloc (.cells #[.bool false] 4)).heap.size = w.heap.size + 1 := by simp
  generalize w.alloc (.cells #[.bool false] 4) = w1 at *
  have HRW := Lib.hid hrow; have HB1 := Lib.hid hb1; have HS1 := Lib.hid hs1
  clear hrow hb1 hs1
  gi_wp2_with fail
  refine ⟨trivial, (callsIn_wide.2 (refuses_any A n c rows w1 ((HR.out.below HB1.out).more HB1.out.size))).mono ?_⟩
  rintro e w2 ⟨rfl, hb2⟩
  have HRW2 := Lib.hid (HRW.out.below hb2 HRW.out.lt)
  have HB2 := Lib.hid (HB1.out.trans (hb2.mono HB1.out.size))
  clear hb2
  obtain ⟨RR, hRR⟩ : ∃ RR, RR = Pg.right 0 rows := ⟨_, rfl⟩
  rw [← hRR]
  have e0 := HRW2.out.cell 0
  have ef := HRW2.out.frozen 0
  have el := HRW2.out.lt
  simp only [List.getElem?_cons_zero] at e0
  by_cases h0 : RR = 0
  · have g1 : ((RR : Int) != 0) = false := by simp; omega
    have HR0 : Hid (Pg.right 0 rows = 0) := Lib.hid (by rw [← hRR]; exact h0)
    clear h0 hRR
    gi_wp2_with fail
    have hf : Calls Try.prog 22 #[.slice A n c] w2 fun e w' => ∃ bb : Bool, e = .returned (.bool bb) ∧ (must = true → bb = true) ∧ w' = w2 := by
      cases must with
      | true => exact (HFE.out rfl w2 HB2.out).mono (fun e w' h => ⟨true, h.1, fun _ => rfl, h.2⟩)
      | false => exact (few_some A n c rows w2 ((HR.out.below HB2.out).more HB2.out.size) HR0.out).mono (fun e w' h => ⟨h.1.choose, h.1.choose_spec, (fun h => by cases h), h.2⟩)
    refine ⟨trivial, (callsIn_wide.2 hf).mono ?_⟩
    clear hf
    rintro e w' ⟨bb, rfl, hbb, rfl⟩
    cases bb with
    | false =>
      have hm : must = false := by cases must with
        | false => rfl
        | true => exact absurd (hbb rfl) (by decide)
      subst hm
      clear hbb
      gi_wp2_with fail
      have hc5 : (w'.setCell ⟨w.heap.size, 0, none⟩ (.bool true)).cell? ⟨w.heap.size, 0, none⟩ = some (.bool true) := (HRW2.out.set_ 0 (.bool true)).cell 0
      have hbz : Below w.heap.size w (w'.setCell ⟨w.heap.size, 0, none⟩ (.bool true)) := HB2.out.setCell (p := ⟨w.heap.size, 0, none⟩) (Nat.le_refl _) _
      generalize w'.setCell ⟨w.heap.size, 0, none⟩ (.bool true) = wz at *
      refine ⟨.bool true, ?_, rfl, hbz⟩
      simp [results, Try.results35, go_sem, hc5]
    | true =>
      clear hbb e0 ef el
      gi_wp2_with fail
      gi_loopw [7, 8] (fun x i wr => ∃ j : Nat, j ≤ n ∧ i = .int .i64 (j : Nat) ∧ x = .int .i64 (Pg.sumN (rows.take j) : Nat) ∧ wr = w') (fun _ i _ => n - (intOf i).toNat)
      case atStart => exact ⟨0, by omega, rfl, by simp [Pg.sumN], rfl⟩
      case round =>
      obtain ⟨j, hj, rfl, rfl, rfl⟩ := hrel
      have hsr := Pg.sumN_right rows 0 (by omega) HR0.out
      by_cases hjn : j < n
      · obtain ⟨rfl, hbB, hcf⟩ := HF.out (by omega)
        obtain ⟨r, hrk⟩ : ∃ r, rows[j]? = some r := ⟨_, List.getElem?_eq_getElem (by have := HL.out; omega)⟩
        have hro := Pg.right_ok rows 0 HR0.out r (List.mem_of_getElem? hrk)
        have c2 := (HB2.out.cell (p := ⟨b, off + j * 6 + 2, none⟩) hbB).trans (hcf j r hrk 2 _ rfl)
        have hbl2 : b < wr.heap.size := Nat.lt_of_lt_of_le hbB HB2.out.size
        have h1 := hro.n1
        obtain ⟨m, hm⟩ : ∃ m : Nat, r.n = (m : Int) := ⟨r.n.toNat, by omega⟩
        have hst := Pg.sumN_take hrk
        have hle := Pg.sumN_take_le rows (j + 1)
        rw [hm] at c2 hst
        simp only [Int.toNat_natCast] at hst
        have HST : Hid (Pg.sumN (rows.take (j + 1)) = Pg.sumN (rows.take j) + m) := Lib.hid hst
        have hle2 : Pg.sumN (rows.take j) + m ≤ 134217728 := by omega
        obtain ⟨X, hX⟩ : ∃ X, X = Pg.sumN (rows.take j) := ⟨_, rfl⟩
        rw [← hX] at HST hle2 ⊢
        clear hst hle hX hcf hro hrk hm h1 hsr
        gi_wp2_with fail
        go_roundw
        case rel => exact ⟨j + 1, by omega, by go_num, by rw [HST.out]; go_num, trivial⟩
        case measure => simp [intOf]; omega
      · have ej : n = j := by omega
        subst ej
        have HSN : Hid (Pg.sumN rows * 4096 ≤ 549755813888) := Lib.hid (by omega)
        rw [List.take_of_length_le (by rw [HL.out]; omega)]
        obtain ⟨X, hX⟩ : ∃ X, X = Pg.sumN rows := ⟨_, rfl⟩
        rw [← hX] at HSN ⊢
        have HX := Lib.hid hX
        clear hX hsr
        gi_wp2_with fail
        refine ⟨trivial, (callsIn_wide.2 (Build_any A n c base rows wr ((HR.out.below HB2.out).more HB2.out.size) hbl)).mono ?_⟩
        rintro e w7 ⟨A7, c7, rfl, hi7⟩
        obtain ⟨a, ha⟩ : ∃ a, a = Pg.ansB rows base := ⟨_, rfl⟩
        have hlen := Pg.ansB_le' rows base
        rw [← ha] at hi7 hlen HMU ⊢
        have HA := Lib.hid ha
        clear ha
        obtain ⟨l, f⟩ := a
        simp only at hlen HMU
        have HT7 := Lib.hid (hi7.has (by simp only; omega))
        have HB7 := Lib.hid (HB2.out.trans (hi7.2.2.mono HB2.out.size))
        have HRW7 := Lib.hid (HRW2.out.below hi7.2.2 HRW2.out.lt)
        clear hi7 HB2 HRW2
        unfold tansV
        simp only
        by_cases hf : f = 0 ∧ X ≤ 5000
        · obtain ⟨rfl, hX5⟩ := hf
          have HOK := Lib.hid (Pg.ansB_ok (rows := rows) (base := base) (by rw [← HA.out]))
          have HLA : Hid (l = (Pg.ans rows base).1) := Lib.hid (by rw [← HOK.out.2.1, ← HA.out])
          have HL1 : Hid (1 ≤ l.length ∧ l.length ≤ 1024) := Lib.hid (by rw [HLA.out]; exact Pg.ans_len rows base HOK.out.1)
          have q2 : ¬ (5000 : Int) < (X : Int) := by omega
          gi_wp2_with fail
          refine ⟨trivial, (callsIn_wide.2 (laid_any A7 l.length c7 base l w7 HT7.out rfl HOK.out.2.2.1 HL1.out.1 HL1.out.2 (by have := HOK.out.2.2.2; rw [← HLA.out] at this; exact this))).mono ?_⟩
          rintro e w8 ⟨g, rfl, hl8, hb8⟩
          obtain ⟨Z, R, M, hm, hL, hz⟩ := hl8
          have HB8 := Lib.hid (HB7.out.trans (hb8.mono HB7.out.size))
          have HRW8 := Lib.hid (HRW7.out.below hb8 HRW7.out.lt)
          have HM8 := Lib.hid hm; have HLI := Lib.hid hL
          have HZ : Hid (∀ k, Z k ∨ R k → w.heap.size < k) := Lib.hid (fun k hk => Nat.lt_of_lt_of_le HRW7.out.lt (hz k hk))
          have HZ8 : Hid (∀ k, Z k ∨ R k → k < w8.heap.size) := Lib.hid (fun k hk => hk.elim ((smach_i g).z HM8.out k) ((smach_i g).r HM8.out k))
          clear hm hL hz hb8 HB7 HRW7 HT7
          gi_upto_region 16 with fail
          have hro := Row.new w8 48 [.slice none 0 0]
          obtain ⟨go, hgo⟩ : ∃ go, go = w8.heap.size := ⟨_, rfl⟩
          rw [← hgo] at hro ⊢
          have HGO := Lib.hid hgo
          have HGW : Hid (w.heap.size < go) := Lib.hid (by rw [hgo]; exact HRW8.out.lt)
          have hb9 : Below w8.heap.size w8 (w8.alloc (.cells #[.slice none 0 0] 48)) := (Below.refl _ _).alloc (Nat.le_refl _) _
          generalize w8.alloc (.cells #[.slice none 0 0] 48) = w9 at *
          have HRO := Lib.hid hro
          have HB9 := Lib.hid (HB8.out.trans (hb9.mono HB8.out.size))
          have HRW9 := Lib.hid (HRW8.out.below hb9 HRW8.out.lt)
          have HM9 := Lib.hid ((smach_i g).below HM8.out hb9)
          clear hgo hro hb9 HB8 HRW8 HM8
          gi_wp2_with fail
          refine ⟨trivial, (callsIn_wide.2 (leaves_any 75 (.pointer (some ⟨g, 0, none⟩)) base 8000 w9)).mono ?_⟩
          rintro e w10 ⟨rfl, rfl⟩
          obtain ⟨hsz10, hb10, hr1, hr2, hr3⟩ := lvW_rows w9 (.iface 75 (.pointer (some ⟨g, 0, none⟩))) base 8000
          have hef := eql_fn (lvW w9 (.iface 75 (.pointer (some ⟨g, 0, none⟩))) base 8000) (.pointer (some ⟨w9.heap.size + 2, 0, none⟩)) (.pointer (some ⟨w9.heap.size, 0, none⟩)) (.pointer (some ⟨w9.heap.size + 1, 0, none⟩))
          unfold lvF pmb
          generalize lvW w9 (.iface 75 (.pointer (some ⟨g, 0, none⟩))) base 8000 = w10 at *
          gi_wp2_with fail
          clear hef
          have hgo : go < w9.heap.size := HRO.out.lt
          have hm10 := (smach_i g).below HM9.out (hb10.mono (Nat.le_refl _))
          have hz10 : ∀ k, Z k ∨ R k → k < go := by
            intro k hk
            rw [HGO.out]
            exact HZ8.out k hk
          have hlo : ∀ k, w10.heap.size + (lvM base + 2) ≤ k → ¬ upTo Z w10.heap.size (lvM base + 2) k := fun k hk h => by
            rcases h with h | h
            · have := hz10 k (.inl h); omega
            · omega
          have hnT : ∀ k, k < w10.heap.size → ¬ Z k → ¬ upTo Z w10.heap.size (lvM base + 2) k := fun k hk hz h => by
            rcases h with h | h
            · exact hz h
            · omega
          have hpl : (Pg.pagesOf rows).length ≤ X := by rw [HX.out]; exact Pg.pages_lenN rows
          have HLV : Hid (lvs M base 8000 = (Pg.pagesOf rows).map Pg.tolv) := Lib.hid (by
            have h := Pg.lvs_pages (M := M) (most := 8000) HOK.out.1 (by rw [← HLA.out]; exact HLI.out) (by have h1 := HL1.out.2; rw [HLA.out] at h1; omega)
            exact h)
          have HLZ : Hid (∀ pre x, pre ++ [x] <+: lvs M base 8000 → x.no = 0 ∧ pre.length < 5000) := Lib.hid (fun pre x h => by
            rw [HLV.out] at h
            have hx : x ∈ (Pg.pagesOf rows).map Pg.tolv := h.subset (by simp)
            obtain ⟨q, _, rfl⟩ := List.mem_map.1 hx
            have hl := h.length_le
            simp at hl
            exact ⟨rfl, by omega⟩)
          obtain ⟨i0, hi0, hz1, hz2, hz3⟩ := info_parts infoLeaf
          refine wpIn_rangeFunc_C (F := Fence.wide) (n := 3) (ps := #[80, 81]) (gf := 80) (lb := #[pmb (w9.heap.size + 2), pmb w9.heap.size, pmb (w9.heap.size + 1)]) rfl (by decide) ?hg trivial (enters_of Try.func80 (by kernel_rfl) rfl)
            (leaves1_seq (smach_i g) (ent_mach g) Z R (fun k => Z k ∨ R k ∨ k = w9.heap.size) M w9.heap.size (w9.heap.size + 1) (w9.heap.size + 2) base 8000 _ w10 hbl (by decide) (by decide) (fun k hk => hk) (fun h => by have := hz10 _ (.inl h); omega) (fun k hk => by
              rcases hk with h | h | h
              · have := hz10 k (.inl h); omega
              · have := hz10 k (.inr h); omega
              · omega) ⟨M.strays, hm10⟩ hr1 hr2 hr3) (Below.refl _ _)
            (fun k hk => by have := hz10 k (.inl hk); omega) (fun k hk => by
              rcases hk with h | h | h
              · have := hz10 k (.inl h); omega
              · have := hz10 k (.inr h); omega
              · omega) (fun _ => rfl)
            (fun U U' ⟨s, hs⟩ hc => ⟨s, (smach_i g).chg hs hc (fun k hk h => by have := hz10 k hk; omega)⟩)
            (toldI go w.heap.size (w10.heap.size + (lvM base + 2)) w) (fun _ _ _ => False)
            (toldI_ab (hnT go (by omega) (fun h => by have := hz10 go (.inl h); omega)) (hnT w.heap.size (by have := HRW9.out.lt; omega) (fun h => by have := HZ.out _ (.inl h); omega)) hlo (fun k hk => by
              rcases hk with h | h
              · have := HZ.out k (.inl h); omega
              · have := HB9.out.size; omega))
            (fun _ _ _ _ hs _ => hs)
            ⟨none, 0, HRO.out.below hb10 HRO.out.lt, World.ownsRow_nil _ _ _ _, HRW9.out.below hb10 HRW9.out.lt, HB9.out.trans (hb10.mono HB9.out.size)⟩
            (toldA (w10.heap.size + (lvM base + 2))) (fun x a' => toldA_ab hlo) ?assign ?body ?done ?stop
          case hg => rfl
          case assign =>
            intro l pre x W K hsz hi hpx hK
            obtain ⟨xv, xp, xn, xb, xw, xx, xno⟩ := x
            unfold lvEnc lvV
            have HK := Lib.hid hK
            have HI := Lib.hid hi
            clear hK hi hpx
            gi_wp2_with fail
            have hchg : ∀ Y : Nat → Prop, ChgP Y W (W.alloc (.cells #[.int .u64 (xv : Nat), .int .u64 (xp : Nat), .int .i64 (xn : Nat), .bool xb, .bool xw, .bool xx] 47)) := fun Y => (ChgP.refl Y W).alloc _
            refine HK.out _ _ (hchg _) ?_ ⟨W.heap.size, by omega, Row.new W 47 _, rfl⟩
            exact toldI_ab (T := fun _ => False) (fun h => h) (fun h => h) (fun _ _ h => h) (fun _ h => h.elim) _ _ _ HI.out (hchg _)
          case body =>
            rintro l pre x a' W hsz ⟨A0, c0, hrow0, hown0, hres0, hbel0⟩ ⟨Bx, hBx, hxr, rfl⟩ hpx
            obtain ⟨hno, hp5⟩ := HLZ.out pre x hpx
            obtain ⟨xv, xp, xn, xb, xw, xx, xno⟩ := x
            simp only at hno
            subst hno
            unfold lvV
            simp only [List.setIfInBounds_toArray, List.set_cons_succ, List.set_cons_zero]
            obtain ⟨LO, hLO⟩ : ∃ LO, LO = w10.heap.size + (lvM base + 2) := ⟨_, rfl⟩
            rw [← hLO] at hown0 hBx hlo ⊢
            have hgoL : go < LO := by omega
            have hr0L : w.heap.size < LO := by have := HRW9.out.lt; omega
            have hLW : LO ≤ W.heap.size := by rw [hLO]; omega
            obtain ⟨kk, hkk⟩ : ∃ kk, kk = (pre.map lvRow).length := ⟨_, rfl⟩
            have hkp : kk < 5000 := by rw [hkk]; simpa using hp5
            have hown0' : W.ownsRow LO 47 6 (.slice A0 kk c0) kk (lall (pre.map lvRow)) := by rw [hkk]; exact hown0
            rw [← hkk] at hrow0
            have e0 := hrow0.cell 0
            have ef := hrow0.frozen 0
            have el := hrow0.lt
            have x0 := hxr.cell 0
            have x1 := hxr.cell 1
            have x2 := hxr.cell 2
            have x3 := hxr.cell 3
            have x4 := hxr.cell 4
            have x5 := hxr.cell 5
            have xl := hxr.lt
            simp only [lvRow, lcells, List.getElem?_cons_zero, List.getElem?_cons_succ] at e0 x0 x1 x2 x3 x4 x5
            have HH := Lib.hid (And.intro hrow0 (And.intro hown0' (And.intro hres0 hbel0)))
            have HHZ := Lib.hid hz10
            have HLO := Lib.hid hLO
            have HKK := Lib.hid hkk
            have HHL := Lib.hid hlo; have HHT := Lib.hid hnT
            clear hrow0 hown0 hown0' hres0 hbel0 hxr hz10 hLO hkk hlo hnT hpx
            gi_wp2_with (gi_at_builtin; refine (?_ : _ ∧ True).1)
            refine ⟨?_, trivial⟩
            refine wpListIn_append_own _ (by rfl) _ _ 48 rfl LO 47 i0 _ 6 32 Try.underlying48 hi0 hz1 hz2 hz3 rfl (by decide) (.slice A0 kk c0) kk (lall (pre.map lvRow)) rfl (owns_chgP HH.out.2.1 ((ChgP.refl (fun _ => False) W).alloc _) (fun _ _ h => h)) ⟨W.heap.size, 0, none⟩ 1 1 (lcells ⟨xv, xp, (xn : Nat), xb, xw, xx⟩) rfl rfl (reads_new W ⟨xv, xp, (xn : Nat), xb, xw, xx⟩) (oneCell_leaf _) (by unfold maxLen; omega) (by omega) (by simp; omega) ?_
            intro v' w1 hown' hgrow _
            obtain ⟨g', cap', rfl⟩ := ownsRow_succ hown'
            have hc1 : ChgP (fun k => LO ≤ k) W w1 := ((ChgP.refl (fun k => LO ≤ k) W).alloc _).grown hgrow (fun k hk => .inl (World.ownsRow.lt HH.out.2.1 k hk).1)
            have hr1' := hc1.row HH.out.1 (by omega)
            have hres1 := hc1.row HH.out.2.2.1 (by omega)
            have f0 := hr1'.cell 0
            have ff := hr1'.frozen 0
            have fl := hr1'.lt
            simp only [List.getElem?_cons_zero] at f0
            have hgT : ¬ upTo (fun k => Z k ∨ R k ∨ k = w9.heap.size) w10.heap.size (lvM base + 2) go := fun h => by
              rcases h with (h | h | h) | h
              · have := HHZ.out go (.inl h); omega
              · have := HHZ.out go (.inr h); omega
              · omega
              · omega
            have hLT : ∀ k, LO ≤ k → ¬ upTo (fun k => Z k ∨ R k ∨ k = w9.heap.size) w10.heap.size (lvM base + 2) k := fun k hk h => by
              have := HLO.out
              rcases h with (h | h | h) | h
              · have := HHZ.out k (.inl h); omega
              · have := HHZ.out k (.inr h); omega
              · omega
              · omega
            have hkp2 : KpC (upTo (fun k => Z k ∨ R k ∨ k = w9.heap.size) w10.heap.size (lvM base + 2)) W (w1.setCell ⟨go, 0, none⟩ (.slice (some ⟨g', 0, none⟩) (kk + 1) cap')) := ChgP.set_ (hc1.mono (fun k hk => .inl (hLT k hk))) (p := ⟨go, 0, none⟩) (.inl hgT) _
            have hc2 : ChgP (fun k => k = go) w1 (w1.setCell ⟨go, 0, none⟩ (.slice (some ⟨g', 0, none⟩) (kk + 1) cap')) := ChgP.set_ (Z := fun k => k = go) (ChgP.refl _ w1) (p := ⟨go, 0, none⟩) (.inl rfl) _
            have hmap : (pre ++ [(⟨xv, xp, xn, xb, xw, xx, 0⟩ : Lv)]).map lvRow = pre.map lvRow ++ [⟨xv, xp, (xn : Nat), xb, xw, xx⟩] := by simp [lvRow]
            have hI2 : toldI go w.heap.size LO w (pre ++ [⟨xv, xp, xn, xb, xw, xx, 0⟩]) (w1.setCell ⟨go, 0, none⟩ (.slice (some ⟨g', 0, none⟩) (kk + 1) cap')) := by
              refine ⟨some ⟨g', 0, none⟩, cap', ?_, ?_, hc2.row hres1 (fun h => by have h : w.heap.size = go := h; have := HGW.out; omega), ?_⟩
              · have h := hr1'.set_ 0 (.slice (some ⟨g', 0, none⟩) (kk + 1) cap')
                rw [hmap, List.length_append, ← HKK.out]
                exact h
              · unfold OwnL
                rw [hmap, lall_snoc, List.length_append, ← HKK.out]
                exact owns_chgP hown' hc2 (fun k hk h => by have h : k = go := h; omega)
              · exact (HH.out.2.2.2.trans (hc1.below HH.out.2.2.2.size (fun k hk => by have hk : LO ≤ k := hk; omega))).setCell (p := ⟨go, 0, none⟩) (by show w.heap.size ≤ go; exact Nat.le_of_lt HGW.out) _
            have HI2 := Lib.hid (And.intro hkp2 hI2)
            clear hc1 hr1' hres1 hkp2 hc2 hI2 hmap hLT hgT hown' hgrow
            gi_wp2_with fail
            exact HI2.out
          case done =>
            rintro xs W rfl ⟨Ao, co, hro1, how1, hrs1, hbl1⟩ _ hK
            rw [HLV.out] at hro1 how1
            have hmm : ((Pg.pagesOf rows).map Pg.tolv).map lvRow = Pg.each rows := by rw [Pg.each_rows, List.map_map]; rfl
            rw [hmm] at hro1 how1
            have hEr := Pg.each_right rows 0 HR0.out
            have hEin : ∀ r ∈ Pg.each rows, r.In := fun r hm => Pg.In_of (Pg.right_all hEr r hm)
            have hEn : ∀ r ∈ Pg.each rows, (r.b = true → r.n = 512) ∧ (r.b = false → r.n = 1) := fun r hm => by
              rw [Pg.each_rows] at hm
              obtain ⟨q, _, rfl⟩ := List.mem_map.1 hm
              refine ⟨fun h => ?_, fun h => ?_⟩
              · show ((q.u / 4096 : Nat) : Int) = 512
                rw [Pg.big_u h]; rfl
              · show ((q.u / 4096 : Nat) : Int) = 1
                rw [Pg.small_u h]; rfl
            have hEs : Pg.sumN (Pg.each rows) = X := by rw [Pg.each_rows, Pg.sumN_pages (Pg.right_ok rows 0 HR0.out), HX.out]
            have hEl : (Pg.each rows).length ≤ X := by rw [Pg.each_rows, List.length_map]; exact hpl
            have HRE := Lib.hid (Pg.runs_each HR0.out)
            have HRIN := Lib.hid (Pg.runs_in' (rows := rows))
            obtain ⟨E, hE⟩ : ∃ E, E = Pg.each rows := ⟨_, rfl⟩
            rw [← hE] at hro1 how1 hEin hEn hEs hEl HRE
            clear hE hEr hmm
            have HO := Lib.hid (OwnL.isL how1 hEin (by omega))
            have HEN := Lib.hid hEn; have HES := Lib.hid hEs
            have HRO1 := Lib.hid hro1; have HRS1 := Lib.hid hrs1; have HBL1 := Lib.hid hbl1
            obtain ⟨D, hD⟩ : ∃ D, D = w10.heap.size := ⟨_, rfl⟩
            rw [← hD] at hK ⊢
            have HK := Lib.hid hK
            have HDW : Hid (w.heap.size < D ∧ go < D) := Lib.hid (by have := HRW9.out.lt; omega)
            obtain ⟨nE, hnE⟩ : ∃ nE, nE = E.length := ⟨_, rfl⟩
            rw [← hnE] at HO HRO1 hEl
            have HNE := Lib.hid hnE
            clear hro1 how1 hrs1 hbl1 hEin hEn hEs hD hK hnE hlo hnT hz10 hm10 hpl HLV HLZ hi0 hz1 hz2 hz3 hr1 hr2 hr3 hb10 hsz10 hgo
            obtain ⟨b3, off3, HF3⟩ := HO.out.form
            have f0 := HRO1.out.cell 0
            have fl := HRO1.out.lt
            simp only [List.getElem?_cons_zero] at f0
            gi_wp2_with fail
            gi_loopw [18, 19] (fun t i wr => ∃ j : Nat, j ≤ nE ∧ i = .int .i64 (j : Nat) ∧ t = .int .i64 (Pg.sumN (E.take j) : Nat) ∧ wr = W) (fun _ i _ => nE - (intOf i).toNat)
            case atStart => exact ⟨0, by omega, rfl, by simp [Pg.sumN], rfl⟩
            case round =>
            obtain ⟨j, hj, rfl, rfl, rfl⟩ := hrel
            by_cases hjn : j < nE
            · obtain ⟨rfl, hbB, hcf⟩ := HF3.out (by omega)
              obtain ⟨r, hrk⟩ : ∃ r, E[j]? = some r := ⟨_, List.getElem?_eq_getElem (by have := HNE.out; omega)⟩
              have hrn := HEN.out r (List.mem_of_getElem? hrk)
              have c2 := hcf j r hrk 2 _ rfl
              have c3 := hcf j r hrk 3 _ rfl
              have hst := Pg.sumN_take hrk
              have hle := Pg.sumN_take_le E (j + 1)
              rw [HES.out] at hle
              obtain ⟨rb, hrb⟩ : ∃ rb, rb = r.b := ⟨_, rfl⟩
              obtain ⟨m, hm⟩ : ∃ m : Nat, r.n = (m : Int) ∧ (rb = true ∧ m = 512 ∨ rb = false ∧ m = 1) := by
                cases hb : r.b with
                | true => exact ⟨512, hrn.1 hb, .inl ⟨hrb.trans hb, rfl⟩⟩
                | false => exact ⟨1, hrn.2 hb, .inr ⟨hrb.trans hb, rfl⟩⟩
              obtain ⟨hm1, hm2⟩ := hm
              rw [hm1] at c2 hst
              rw [← hrb] at c3
              simp only [Int.toNat_natCast] at hst
              have HST : Hid (Pg.sumN (E.take (j + 1)) = Pg.sumN (E.take j) + m) := Lib.hid hst
              have hle2 : Pg.sumN (E.take j) + m ≤ 5000 := by omega
              obtain ⟨Y, hY⟩ : ∃ Y, Y = Pg.sumN (E.take j) := ⟨_, rfl⟩
              rw [← hY] at HST hle2 ⊢
              clear hst hle hY hcf hrk hm1 hrn hrb
              rcases hm2 with ⟨rfl, rfl⟩ | ⟨rfl, rfl⟩
              · gi_wp2_with fail
                go_roundw
                case rel => exact ⟨j + 1, by omega, by go_num, by rw [HST.out]; go_num, trivial⟩
                case measure => simp [intOf]; omega
              · gi_wp2_with fail
                go_roundw
                case rel => exact ⟨j + 1, by omega, by go_num, by rw [HST.out]; go_num, trivial⟩
                case measure => simp [intOf]; omega
            · have ej : nE = j := by omega
              subst ej
              rw [List.take_of_length_le (by rw [HNE.out]; omega), HES.out]
              gi_wp2_with fail
              have HLR := Lib.hid (rfl : Pg.runs rows = Pg.runs rows)
              obtain ⟨lr, hlr⟩ : ∃ lr, lr = Pg.runs rows := ⟨_, rfl⟩
              have hlin := HRIN.out
              rw [← hlr] at hlin HRE
              have HLIN := Lib.hid hlin
              have HLR2 := Lib.hid hlr
              clear hlin HRIN HLR hlr
              refine ⟨trivial, (callsIn_wide.2 (Runs_any Ao nE co E wr HO.out)).mono ?_⟩
              rintro e wa ⟨A1, d1, rfl, ho1, hb1⟩
              rw [HRE.out] at ho1 ⊢
              have HB1 := Lib.hid hb1
              have HO1 := Lib.hid (OwnL.isL ho1 HLIN.out.1 (by have := HLIN.out.2; omega))
              clear ho1 hb1
              gi_wp2_with fail
              refine ⟨trivial, (callsIn_wide.2 (Runs_any A n c rows wa ((HR.out.below (HBL1.out.trans (HB1.out.mono HBL1.out.size))).more (Nat.le_trans HBL1.out.size HB1.out.size)))).mono ?_⟩
              rintro e wb ⟨A2, d2, rfl, ho2, hb2⟩
              rw [← HLR2.out] at ho2 ⊢
              have HB2' := Lib.hid (HB1.out.trans (hb2.mono HB1.out.size))
              have HO2 := Lib.hid (OwnL.isL ho2 HLIN.out.1 (by have := HLIN.out.2; omega))
              have HO1' := Lib.hid ((HO1.out.below hb2).more hb2.size)
              clear ho2 hb2 HO1 HB1
              gi_wp2_with fail
              refine ⟨trivial, (callsIn_wide.2 (sameL_yes A1 A2 lr.length d1 d2 lr wb HO1'.out HO2.out)).mono ?_⟩
              rintro e wc ⟨rfl, mm, rfl⟩
              have HB3 : Hid (Below wr.heap.size wr (wb.drewN mm)) := Lib.hid (below_drewN HB2'.out mm)
              clear HO1' HO2 HB2'
              generalize wb.drewN mm = wc at *
              have f1 := (HRO1.out.below HB3.out HRO1.out.lt).cell 0
              have fl1 := (HRO1.out.below HB3.out HRO1.out.lt).lt
              simp only [List.getElem?_cons_zero] at f1
              gi_wp2_with fail
              refine ⟨trivial, (callsIn_wide.2 (rruns_any Ao nE co E wc ((HO.out.below HB3.out).more HB3.out.size))).mono ?_⟩
              rintro e wd ⟨A3, d3, rfl, ho3, hb3⟩
              rw [HRE.out] at ho3 ⊢
              have HB4 := Lib.hid (HB3.out.trans (hb3.mono HB3.out.size))
              have HO3 := Lib.hid (OwnL.isL ho3 HLIN.out.1 (by have := HLIN.out.2; omega))
              clear ho3 hb3 f1 fl1 HB3
              gi_wp2_with fail
              refine ⟨trivial, (callsIn_wide.2 (rruns_any A n c rows wd ((HR.out.below (HBL1.out.trans (HB4.out.mono HBL1.out.size))).more (Nat.le_trans HBL1.out.size HB4.out.size)))).mono ?_⟩
              rintro e we ⟨A4, d4, rfl, ho4, hb4⟩
              rw [← HLR2.out] at ho4 ⊢
              have HB5 := Lib.hid (HB4.out.trans (hb4.mono HB4.out.size))
              have HO4 := Lib.hid (OwnL.isL ho4 HLIN.out.1 (by have := HLIN.out.2; omega))
              have HO3' := Lib.hid ((HO3.out.below hb4).more hb4.size)
              clear ho4 hb4 HO3 HB4
              gi_wp2_with fail
              refine ⟨trivial, (callsIn_wide.2 (sameL_yes A3 A4 lr.length d3 d4 lr we HO3'.out HO4.out)).mono ?_⟩
              rintro e wf ⟨rfl, mm2, rfl⟩
              have HB6 : Hid (Below wr.heap.size wr (we.drewN mm2)) := Lib.hid (below_drewN HB5.out mm2)
              clear HO3' HO4 HB5
              generalize we.drewN mm2 = wf at *
              have hrs6 := HRS1.out.below HB6.out HRS1.out.lt
              have e0 := hrs6.cell 0
              have ef := hrs6.frozen 0
              have el := hrs6.lt
              simp only [List.getElem?_cons_zero] at e0
              have hK6 : wf.heap[D]? = some (.deferred (some [])) := (HB6.out.block D (Array.getElem?_eq_some_iff.1 HK.out).1).trans HK.out
              have hbl6 : Below w.heap.size w wf := HBL1.out.trans (HB6.out.mono HBL1.out.size)
              have HZZ := Lib.hid (And.intro hrs6 (And.intro hK6 hbl6))
              clear hrs6 hK6 hbl6
              gi_wp2_with fail
              have hcz : ChgP (fun k => k = w.heap.size) wf (wf.setCell ⟨w.heap.size, 0, none⟩ (.bool true)) := ChgP.set_ (Z := fun k => k = w.heap.size) (ChgP.refl _ wf) (p := ⟨w.heap.size, 0, none⟩) (.inl rfl) _
              have hKz : (wf.setCell ⟨w.heap.size, 0, none⟩ (.bool true)).heap[D]? = some (.deferred (some [])) := by
                rw [hcz.block D (Array.getElem?_eq_some_iff.1 HZZ.out.2.1).1 (fun h => by have h : D = w.heap.size := h; have := HDW.out.1; omega)]
                exact HZZ.out.2.1
              have hrz := HZZ.out.1.set_ 0 (.bool true)
              have hbz := HZZ.out.2.2.setCell (p := ⟨w.heap.size, 0, none⟩) (Nat.le_refl _) (.bool true)
              simp only [List.set_cons_zero] at hrz
              generalize wf.setCell ⟨w.heap.size, 0, none⟩ (.bool true) = wz at *
              have hcy : ChgP (fun k => k = D) wz (wz.putObj D (.deferred none)) := chgP_put wz D _ rfl
              have hc5 := (hcy.row hrz (fun h => by have h : w.heap.size = D := h; have := HDW.out.1; omega)).cell 0
              have hby : Below w.heap.size w (wz.putObj D (.deferred none)) := hbz.trans (hcy.below hbz.size (fun k hk => by have hk : k = D := hk; have := HDW.out.1; omega))
              simp only [List.getElem?_cons_zero] at hc5
              refine ⟨by simp, .inl ⟨_, _, rfl, run_takeDeferred hKz, ?_⟩⟩
              generalize wz.putObj D (.deferred none) = wy at *
              refine ⟨.bool true, ?_, rfl, hby⟩
              simp [results, Try.results35, go_sem, hc5]
          case stop =>
            intro c pre W _ h _ _
            exact h.elim
        · have hm : must = false := by cases must with
            | false => rfl
            | true => exact absurd ⟨(HMU.out rfl).2.2, by rw [HX.out]; exact (HMU.out rfl).2.1⟩ hf
          subst hm
          by_cases q : f = 0
          · have q2 : (5000 : Int) < (X : Int) := by omega
            subst q
            gi_wp2_with fail
            refine ⟨trivial, (callsIn_wide.2 (rbuild_any A n c base rows w7 ((HR.out.below HB7.out).more HB7.out.size) hbl)).mono ?_⟩
            rintro e w8 ⟨A8, c8, rfl, hi8⟩
            rw [← HA.out] at hi8 ⊢
            have HB8 := Lib.hid (HB7.out.trans (hi8.2.2.mono HB7.out.size))
            have HRW8 := Lib.hid (HRW7.out.below hi8.2.2 HRW7.out.lt)
            clear hi8
            unfold tansV
            simp only
            have e0 := HRW8.out.cell 0
            have ef := HRW8.out.frozen 0
            have el := HRW8.out.lt
            simp only [List.getElem?_cons_zero] at e0
            gi_wp2_with fail
            have hc5 : (w8.setCell ⟨w.heap.size, 0, none⟩ (.bool true)).cell? ⟨w.heap.size, 0, none⟩ = some (.bool true) := (HRW8.out.set_ 0 (.bool true)).cell 0
            have hbz : Below w.heap.size w (w8.setCell ⟨w.heap.size, 0, none⟩ (.bool true)) := HB8.out.setCell (p := ⟨w.heap.size, 0, none⟩) (Nat.le_refl _) _
            generalize w8.setCell ⟨w.heap.size, 0, none⟩ (.bool true) = wz at *
            refine ⟨.bool true, ?_, rfl, hbz⟩
            simp [results, Try.results35, go_sem, hc5]
          · have q2 : ((f : Int) != 0) = true := by simp; omega
            clear q
            gi_wp2_with fail
            refine ⟨trivial, (callsIn_wide.2 (rbuild_any A n c base rows w7 ((HR.out.below HB7.out).more HB7.out.size) hbl)).mono ?_⟩
            rintro e w8 ⟨A8, c8, rfl, hi8⟩
            rw [← HA.out] at hi8 ⊢
            have HB8 := Lib.hid (HB7.out.trans (hi8.2.2.mono HB7.out.size))
            have HRW8 := Lib.hid (HRW7.out.below hi8.2.2 HRW7.out.lt)
            clear hi8
            unfold tansV
            simp only
            have e0 := HRW8.out.cell 0
            have ef := HRW8.out.frozen 0
            have el := HRW8.out.lt
            simp only [List.getElem?_cons_zero] at e0
            gi_wp2_with fail
            have hc5 : (w8.setCell ⟨w.heap.size, 0, none⟩ (.bool true)).cell? ⟨w.heap.size, 0, none⟩ = some (.bool true) := (HRW8.out.set_ 0 (.bool true)).cell 0
            have hbz : Below w.heap.size w (w8.setCell ⟨w.heap.size, 0, none⟩ (.bool true)) := HB8.out.setCell (p := ⟨w.heap.size, 0, none⟩) (Nat.le_refl _) _
            generalize w8.setCell ⟨w.heap.size, 0, none⟩ (.bool true) = wz at *
            refine ⟨.bool true, ?_, rfl, hbz⟩
            simp [results, Try.results35, go_sem, hc5]
  · have g1 : ((RR : Int) != 0) = true := by simp; omega
    have hm : must = false := by cases must with
      | false => rfl
      | true => exact absurd (hRR.trans (HMU.out rfl).1) h0
    subst hm
    clear h0 hRR
    gi_wp2_with fail
    refine ⟨trivial, ?_⟩
    gi_wp2_with fail
    have hc5 : (w2.setCell ⟨w.heap.size, 0, none⟩ (.bool true)).cell? ⟨w.heap.size, 0, none⟩ = some (.bool true) := (HRW2.out.set_ 0 (.bool true)).cell 0
    have hbz : Below w.heap.size w (w2.setCell ⟨w.heap.size, 0, none⟩ (.bool true)) := HB2.out.setCell (p := ⟨w.heap.size, 0, none⟩) (Nat.le_refl _) _
    generalize w2.setCell ⟨w.heap.size, 0, none⟩ (.bool true) = wz at *
    refine ⟨.bool true, ?_, rfl, hbz⟩
    simp [results, Try.results35, go_sem, hc5]
end Go.Proofs.Ytblfagmoilhdnaa
