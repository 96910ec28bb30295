/- Texts of this claim, one behind the other: PgF, PgG, PagesN. -/
import Derived.Test.YtblfagmoilhdnaaJPagesTold22
/- The walk of pages.build. -/
set_option linter.unusedVariables false
set_option linter.unusedSimpArgs false
namespace Go.Proofs.Ytblfagmoilhdnaa
open Go.RowKit

namespace Pg
/-- the builder, page after page; none: more tables than there may be -/
def runP (base : Nat) : St → List Pge → Option St
  | s, [] => some s
  | s, q :: r => if 1024 < (step base s q).all.length then none else runP base (step base s q) r
def init : St := ⟨[zero512], 0, 0, 0⟩
/-- the tables, or why not -/
def ans (rows : List Lf) (base : Nat) : List (List Nat) × Nat :=
  if right 0 rows ≠ 0 then ([], right 0 rows) else match runP base init (pagesOf rows) with
    | none => ([], 4)
    | some s => (s.all, 0)
structure Inv (s : St) : Prop where
  n0 : 0 < s.all.length
  n1 : s.all.length ≤ 1024
  mid : s.mid < s.all.length
  low : s.low < s.all.length
  virt : s.virt < 549755813888
theorem inv_init : Inv init := ⟨by decide, by decide, by decide, by decide, by decide⟩
theorem step_len (base : Nat) (s : St) (q : Pge) : s.all.length ≤ (step base s q).all.length ∧ (step base s q).all.length ≤ s.all.length + 2 := by
  have h1 := openMid_len base s q.v
  have h2 := openLow_len base (openMid base s q.v) q.v
  unfold step
  cases q.b
  · simp [setE_len]; omega
  · simp [setE_len]; omega
theorem Inv.step {base : Nat} {s : St} {q : Pge} (h : Inv s) (hq : q.Ok) (hn : (step base s q).all.length ≤ 1024) : Inv (step base s q) := by
  have h1 := openMid_in base s q.v h.mid h.low
  have h2 := openLow_in base (openMid base s q.v) q.v h1.1 h1.2.1
  have h3 := step_len base s q
  have h0 := h.n0
  refine ⟨by omega, hn, ?_, ?_, ?_⟩
  · unfold Pg.step
    cases q.b
    · have := openLow_len base (openMid base s q.v) q.v
      simp [setE_len]; omega
    · simp [setE_len]; omega
  · unfold Pg.step
    cases q.b
    · simp [setE_len]; omega
    · have := h1.1
      simp [setE_len]; omega
  · have := hq.lt
    unfold Pg.step
    cases q.b <;> exact this.1
theorem right_all : ∀ {rows : List Lf} {bh : Nat}, right bh rows = 0 → ∀ r ∈ rows, r.Ok
  | [], _, _, r, h => by cases h
  | r :: rs, bh, h, r', h' => by
    obtain ⟨a, _, c⟩ := right_cons h
    rcases List.mem_cons.1 h' with rfl | h'
    · exact a
    · exact right_all c _ h'
theorem pagesOf_drop {rows : List Lf} {k : Nat} {r : Lf} (h : rows[k]? = some r) : pagesOf (rows.drop k) = r.pages ++ pagesOf (rows.drop (k + 1)) := by
  obtain ⟨hlt, he⟩ := List.getElem?_eq_some_iff.1 h
  rw [List.drop_eq_getElem_cons hlt, he]
  rfl
theorem pages_drop {r : Lf} {j : Nat} (h : j < r.cnt) : r.pages.drop j = r.page j :: r.pages.drop (j + 1) := by
  have hl : j < r.pages.length := by simp [Lf.pages, h]
  rw [List.drop_eq_getElem_cons hl]
  simp [Lf.pages]
theorem pages_len (r : Lf) : r.pages.length = r.cnt := by simp [Lf.pages]
theorem runP_cons (base : Nat) (s : St) (q : Pge) (r : List Pge) : runP base s (q :: r) = if 1024 < (step base s q).all.length then none else runP base (step base s q) r := rfl
end Pg
theorem wpList_made {P : Program} {ops : Array Oper} {rest : List Oper} {o : Oper} {a : Act} {Q : Exit → Act → World → Prop} {w w1 : World} (hgd : Region.wanted o (yielded ops a.tmps) = true) (t : TypeId) (x y : Operand) (ho : o.op = .makeSlice t x y) {X Y v : Value} (hx : a.eval x = X) (hy : a.eval y = Y)
    (hrun : (Instr.makeSlice t X Y).run P w = .ok v w1) (h : wpList P ops Q rest (a.put o.dst v) w1) : wpList P ops Q (o :: rest) a w :=
  wpList_wanted hgd fun _ hK => by
    unfold Oper.wp execOp
    simp only [ho, hx, hy, Sem.run_bind, hrun, Result.andThen_ok]
    exact hK _ _ h
theorem own_nil (w : World) (base : Nat) (e : TypeId) (size : Nat) : w.ownsRow base e size (.slice none 0 0) 0 [] := ⟨by simp, .inl ⟨rfl, rfl⟩⟩
theorem own_fresh (w : World) (e : TypeId) (size n : Nat) (xs : List Value) (h : xs.length = n * size) (hn : n ≤ maxLen) : (w.alloc (.cells xs.toArray e)).ownsRow w.heap.size e size (.slice (some ⟨w.heap.size, 0, none⟩) n n) n xs := by
  refine ⟨h, .inr ⟨w.heap.size, n, xs.toArray, rfl, Nat.le_refl _, ?_, Nat.le_refl _, hn, by simpa using h, ?_⟩⟩
  · exact (Row.new w e xs)
  · simp only [List.toList_toArray]
    rw [← h, List.take_length]
theorem own_mono {w : World} {base base' n size : Nat} {e : TypeId} {v : Value} {xs : List Value} (h : w.ownsRow base e size v n xs) (hb : base' ≤ base) : w.ownsRow base' e size v n xs := by
  refine ⟨h.1, ?_⟩
  rcases h.2 with h | ⟨g, cap, cur, h1, h2, h3⟩
  · exact .inl h
  · exact .inr ⟨g, cap, cur, h1, Nat.le_trans hb h2, h3⟩
/-- what a result is: the list, laid in new memory -/
def IsT (w w' : World) (A : Option Addr) (c : Nat) (l : List (List Nat)) : Prop := w'.ownsRow w.heap.size 24 512 (.slice A l.length c) l.length (tcells l) ∧ Tabs l ∧ Below w.heap.size w w'
theorem tabs_nil : Tabs [] := fun t h => by cases h
theorem IsT.nil {w w' : World} (h : Below w.heap.size w w') : IsT w w' none 0 [] := ⟨own_nil _ _ _ _, tabs_nil, h⟩
def tansV (A : Option Addr) (c : Nat) (a : List (List Nat) × Nat) : Value := .tuple #[.slice A a.1.length c, .int .i64 (a.2 : Nat)]
set_option maxRecDepth 100000 in
set_option maxHeartbeats 1000000 in
theorem build_any (A : Option Addr) (n c base : Nat) (rows : List Pg.Lf) (w : World) (hr : IsL w w.heap.size A n rows) (hbase : base % 4096 = 0) (hbl : base < 4294967296) :
    Calls Try.prog 41 #[.slice A n c, .int .u64 (base : Nat)] w fun e w' => ∃ A' c', e = .returned (tansV A' c' (Pg.ans rows base)) ∧ IsT w w' A' c' (Pg.ans rows base).1 := by
  have HRT := Lib.hid (right_any A n c rows w hr)
  obtain ⟨b, off, HF⟩ := hr.form
  have HL := Lib.hid hr.2.2.1
  have hn := hr.2.2.2
  clear hr
  go_enter Try.func41, Try.ntmps41
  go_wp2_with fail
  refine HRT.out.mono ?_
  rintro e w1 ⟨rfl, hb1⟩
  have HB1 := Lib.hid hb1
  clear hb1
  obtain ⟨R, hR⟩ : ∃ R, R = Pg.right 0 rows := ⟨_, rfl⟩
  rw [← hR]
  by_cases h0 : R = 0
  · have HR0 : Hid (Pg.right 0 rows = 0) := Lib.hid (hR ▸ h0)
    have f0 : ((R : Int) != 0) = false := by rw [bne_eq_false_iff_eq]; omega
    clear h0 hR
    have hbs := tab_made
    have hown0 := own_fresh w1 24 512 1 (zeros 512) (by simp [zeros]) (by unfold maxLen; omega)
    obtain ⟨Z, hZ⟩ : ∃ Z, Z = zeros 512 := ⟨_, rfl⟩
    rw [← hZ] at hbs hown0
    have HBS := Lib.hid hbs
    have HO := Lib.hid hown0
    have HZZ := Lib.hid hZ
    clear hbs hown0 hZ
    go_upto_region 5 with (first | (refine wpList_made (by rfl) 42 _ _ rfl (by rfl) (by rfl) (HBS.out _) ?_))
    have HBD0 : Hid (Bd ((w1.alloc (.cells Z.toArray 24)).alloc (.cells #[.int .u64 (base : Nat), .slice (some ⟨w1.heap.size, 0, none⟩) 1 1, .int .i64 0, .int .i64 0, .int .u64 0] 133)) w1.heap.size (w1.heap.size + 1) base Pg.init) := Lib.hid (by
      have hr := Row.new (w1.alloc (.cells Z.toArray 24)) 133 (bcells base 0 0 0 1 1 (some ⟨w1.heap.size, 0, none⟩))
      have hz : tcells Pg.init.all = Z := by rw [HZZ.out]; rfl
      refine ⟨w1.heap.size, 1, ?_, ?_, ?_⟩
      · rw [show (w1.alloc (.cells Z.toArray 24)).heap.size = w1.heap.size + 1 by simp] at hr
        exact hr
      · rw [hz]
        exact HO.out.alloc _
      · intro t ht
        simp [Pg.init] at ht
        subst ht
        exact ⟨List.length_replicate, fun x hx => by rw [List.eq_of_mem_replicate hx]; decide⟩)
    have HBE0 : Hid (Below w.heap.size w ((w1.alloc (.cells Z.toArray 24)).alloc (.cells #[.int .u64 (base : Nat), .slice (some ⟨w1.heap.size, 0, none⟩) 1 1, .int .i64 0, .int .i64 0, .int .u64 0] 133))) := Lib.hid ((HB1.out.alloc HB1.out.size _).alloc (by have := HB1.out.size; simp; omega) _)
    have HB1S := Lib.hid HB1.out.size
    clear HBS HO HZZ HRT
    have HSZ : Hid (w1.heap.size ≤ ((w1.alloc (.cells Z.toArray 24)).alloc (.cells #[.int .u64 (base : Nat), .slice (some ⟨w1.heap.size, 0, none⟩) 1 1, .int .i64 0, .int .i64 0, .int .u64 0] 133)).heap.size) := Lib.hid (by simp; omega)
    generalize (w1.alloc (.cells Z.toArray 24)).alloc (.cells #[.int .u64 (base : Nat), .slice (some ⟨w1.heap.size, 0, none⟩) 1 1, .int .i64 0, .int .i64 0, .int .u64 0] 133) = w2 at *
    obtain ⟨B, hB⟩ : ∃ B, B = w1.heap.size := ⟨_, rfl⟩
    rw [← hB] at HBD0 HB1S HSZ ⊢
    have HWB : Hid (w.heap.size ≤ B) := HB1S
    have hsz := HSZ.out
    obtain ⟨g, hg⟩ : ∃ g, g = B + 1 := ⟨_, rfl⟩
    rw [← hg] at HBD0 ⊢
    have hBg : B ≤ g := by omega
    have HNS : Hid (Below w.heap.size w w2 ∧ B ≤ w2.heap.size) := Lib.hid ⟨HBE0.out, hsz⟩
    clear hB hg HB1 HB1S HSZ HBE0 hsz
    generalize HZ : (Value.agg #[.int .u64 (base : Nat), .slice (some ⟨B, 0, none⟩) 1 1, .int .i64 0, .int .i64 0, .int .u64 0]) = ZV
    clear HZ
    go_wp2_with fail
    go_loopw [22] (fun i wr => ∃ (k : Nat) (s : Pg.St), k ≤ n ∧ i = .int .i64 k ∧ Hid (Bd wr B g base s) ∧ Hid (Pg.Inv s) ∧ Hid (Pg.runP base s (Pg.pagesOf (rows.drop k)) = Pg.runP base Pg.init (Pg.pagesOf rows)) ∧ Hid (Below w.heap.size w wr ∧ B ≤ wr.heap.size)) (fun i _ => n - (intOf i).toNat)
    case atStart => exact ⟨0, Pg.init, by omega, rfl, HBD0, Lib.hid Pg.inv_init, Lib.hid rfl, HNS⟩
    case round =>
      clear HBD0 HNS
      obtain ⟨k, s, hk, rfl, HBD, HI, HRP, HB⟩ := hrel
      by_cases hkn : k < n
      · obtain ⟨hA, hbB, hc⟩ := HF.out (by omega)
        subst hA
        obtain ⟨r, hrk⟩ : ∃ r, rows[k]? = some r := ⟨_, List.getElem?_eq_getElem (by have := HL.out; omega)⟩
        have hok := Pg.right_all HR0.out r (List.mem_of_getElem? hrk)
        have hpd := Pg.pagesOf_drop hrk
        have c0 := (HB.out.1.cell (p := ⟨b, off + k * 6, none⟩) hbB).trans (hc k r hrk 0 _ rfl)
        have c1 := (HB.out.1.cell (p := ⟨b, off + k * 6 + 1, none⟩) hbB).trans (hc k r hrk 1 _ rfl)
        have c2 := (HB.out.1.cell (p := ⟨b, off + k * 6 + 2, none⟩) hbB).trans (hc k r hrk 2 _ rfl)
        have c3 := (HB.out.1.cell (p := ⟨b, off + k * 6 + 3, none⟩) hbB).trans (hc k r hrk 3 _ rfl)
        have c4 := (HB.out.1.cell (p := ⟨b, off + k * 6 + 4, none⟩) hbB).trans (hc k r hrk 4 _ rfl)
        have c5 := (HB.out.1.cell (p := ⟨b, off + k * 6 + 5, none⟩) hbB).trans (hc k r hrk 5 _ rfl)
        have HPD := Lib.hid hpd
        have hu := r.u_or
        have hcu := hok.cnt_u
        have h1 := hok.n1
        have h5 := hok.vl
        have h6 := hok.pl
        obtain ⟨v, p, m, bg, wt, ex⟩ := r
        simp only at h1 h5 h6 hcu
        obtain ⟨nm, rfl⟩ : ∃ nm : Nat, m = nm := ⟨m.toNat, by omega⟩
        simp only [Int.toNat_natCast] at h1 h5 h6 hcu
        obtain ⟨U, hU⟩ : ∃ U, U = Pg.Lf.u ⟨v, p, nm, bg, wt, ex⟩ := ⟨_, rfl⟩
        obtain ⟨C, hC⟩ : ∃ C, C = Pg.Lf.cnt ⟨v, p, nm, bg, wt, ex⟩ := ⟨_, rfl⟩
        rw [← hU] at hu hcu
        rw [← hC] at hcu
        have HU := Lib.hid hU; have HC := Lib.hid hC; have HUU := Lib.hid hu; have HCU := Lib.hid hcu; have HOK := Lib.hid hok
        have hU0 : 0 < U := by rcases hu with h | h <;> omega
        have hU1 : U ≤ 2097152 := by rcases hu with h | h <;> omega
        clear hc hU hC hu hcu hok hpd hrk
        go_wp2_with fail
        obtain ⟨gl, hgl⟩ : ∃ g, g = wr.heap.size := ⟨_, rfl⟩
        have hrow := Row.new wr 47 (lcells ⟨v, p, nm, bg, wt, ex⟩)
        have hba : Below w.heap.size w (wr.alloc (.cells (lcells ⟨v, p, nm, bg, wt, ex⟩).toArray 47)) := HB.out.1.alloc HB.out.1.size _
        have hbd := HBD.out.below ((Below.refl wr.heap.size wr).alloc (Nat.le_refl _) (.cells (lcells ⟨v, p, nm, bg, wt, ex⟩).toArray 47))
        have hbs : B ≤ (wr.alloc (.cells (lcells ⟨v, p, nm, bg, wt, ex⟩).toArray 47)).heap.size := by have := HB.out.2; simp; omega
        unfold lcells at hrow hba hbd hbs
        simp only [] at hrow hba hbd hbs
        rw [← hgl] at hrow ⊢
        have HROW := Lib.hid hrow
        have HBA := Lib.hid (And.intro hba hbs)
        have HBD1 := Lib.hid hbd
        clear hrow hba hbd hbs c0 c1 c2 c3 c4 c5 HF HB HBD hgl
        go_loopw [10] (fun x wi => ∃ (j X : Nat) (s : Pg.St), j ≤ C ∧ X = j * U ∧ x = .int .u64 X ∧ Hid (Bd wi B g base s) ∧ Hid (Pg.Inv s) ∧ Hid (Pg.runP base s ((Pg.Lf.pages ⟨v, p, nm, bg, wt, ex⟩).drop j ++ Pg.pagesOf (rows.drop (k + 1))) = Pg.runP base Pg.init (Pg.pagesOf rows)) ∧ Hid (Row wi gl 47 [.int .u64 (v : Nat), .int .u64 (p : Nat), .int .i64 (nm : Nat), .bool bg, .bool wt, .bool ex]) ∧ Hid (Below w.heap.size w wi ∧ B ≤ wi.heap.size)) (fun x _ => nm * 4096 - (intOf x).toNat)
        case atStart => exact ⟨0, 0, s, by omega, by simp, rfl, HBD1, HI, Lib.hid (by rw [List.drop_zero, ← HPD.out]; exact HRP.out), HROW, HBA⟩
        case round =>
          clear HBD1 HI HRP HPD HROW HBA
          obtain ⟨j, X, s, hj, hX, rfl, HBD, HI, HRP, HROW, HB⟩ := hrel
          have HX := Lib.hid hX
          clear hX
          have d0 := HROW.out.cell 0
          have d1 := HROW.out.cell 1
          have d2 := HROW.out.cell 2
          have d3 := HROW.out.cell 3
          have d4 := HROW.out.cell 4
          have d5 := HROW.out.cell 5
          simp only [List.getElem?_cons_zero, List.getElem?_cons_succ] at d0 d1 d2 d3 d4 d5
          have hgl := HROW.out.lt
          have e1 : IntKind.u64.wrap (nm : Int) = (nm : Int) := by rw [IntKind.wrap_u64]; omega
          have e2 : (nm : Int) * 4096 % 18446744073709551616 = (nm : Int) * 4096 := by omega
          have e2' : IntKind.u64.wrap ((nm : Int) * 4096) = (nm : Int) * 4096 := by rw [IntKind.wrap_u64]; exact e2
          by_cases hjc : j < C
          · have hXU : X + U ≤ nm * 4096 := by
              rw [← HCU.out, HX.out, ← Nat.succ_mul]
              exact Nat.mul_le_mul_right _ hjc
            have hq := HOK.out.page_ok (i := j) (by rw [← HC.out]; exact hjc)
            have hql := hq.lt
            have hqe : Pg.Lf.page ⟨v, p, nm, bg, wt, ex⟩ j = ⟨v + X, p + X, bg, wt, ex⟩ := by
              unfold Pg.Lf.page
              rw [HX.out, HU.out]
            have hpd := Pg.pages_drop (r := ⟨v, p, nm, bg, wt, ex⟩) (j := j) (by rw [← HC.out]; exact hjc)
            rw [hqe] at hq hpd hql
            obtain ⟨V, hV⟩ : ∃ V, V = v + X := ⟨_, rfl⟩
            obtain ⟨P, hP⟩ : ∃ P, P = p + X := ⟨_, rfl⟩
            rw [← hV, ← hP] at hq hpd hql
            have f1 : IntKind.u64.wrap ((v : Int) + (X : Int)) = (V : Int) := by rw [IntKind.wrap_u64]; omega
            have f2 : ((v : Int) + (X : Int)) % 18446744073709551616 = (V : Int) := by omega
            have f3 : IntKind.u64.wrap ((p : Int) + (X : Int)) = (P : Int) := by rw [IntKind.wrap_u64]; omega
            have f4 : ((p : Int) + (X : Int)) % 18446744073709551616 = (P : Int) := by omega
            have f5 : ((v : Int) + (X : Int)) = (V : Int) := by omega
            have f6 : ((p : Int) + (X : Int)) = (P : Int) := by omega
            have HPG := Lib.hid (page_any B g base s ⟨v, p, nm, bg, wt, ex⟩ ⟨V, P, bg, wt, ex⟩ wr HBD.out hBg HB.out.2 hq ⟨rfl, rfl, rfl⟩ HI.out.n0 (by have := HI.out.n1; omega) HI.out.mid HI.out.low HI.out.virt hbase hbl)
            have HPD := Lib.hid hpd
            have HQ := Lib.hid hq
            have HJC := Lib.hid hjc
            clear hV hP hq hql hqe hpd hjc HBD
            go_wp2_with fail
            refine HPG.out.mono ?_
            rintro e w3 ⟨rfl, hbd3, hbe3, hfar3⟩
            have hst := Pg.runP_cons base s ⟨V, P, bg, wt, ex⟩ ((Pg.Lf.pages ⟨v, p, nm, bg, wt, ex⟩).drop (j + 1) ++ Pg.pagesOf (rows.drop (k + 1)))
            have hrp := HRP.out
            rw [HPD.out, List.cons_append, hst] at hrp
            have hinv := fun hl => HI.out.step (base := base) HQ.out hl
            obtain ⟨s1, hs1⟩ : ∃ s1, s1 = Pg.step base s ⟨V, P, bg, wt, ex⟩ := ⟨_, rfl⟩
            rw [← hs1] at hbd3 hrp hinv
            have HRP1 := Lib.hid hrp
            have HINV := Lib.hid hinv
            have HBD3 := Lib.hid hbd3
            have HBE3 : Hid (Below w.heap.size w w3 ∧ B ≤ w3.heap.size) := Lib.hid ⟨HB.out.1.trans (hbe3.mono HWB.out), Nat.le_trans HB.out.2 hbe3.size⟩
            have HROW3 := Lib.hid (hfar3 gl _ _ (by decide) (by decide) HROW.out)
            obtain ⟨ga, cb, hr3, hown3, htab3⟩ := hbd3
            have k1 := hr3.cell 1
            simp only [bcells, List.getElem?_cons_zero, List.getElem?_cons_succ] at k1
            have hlg := hr3.lt
            have k3 := HROW3.out.cell 0
            have k4 := HROW3.out.cell 1
            have k5 := HROW3.out.cell 2
            have k6 := HROW3.out.cell 3
            have k7 := HROW3.out.cell 4
            have k8 := HROW3.out.cell 5
            simp only [List.getElem?_cons_zero, List.getElem?_cons_succ] at k3 k4 k5 k6 k7 k8
            have hlgl := HROW3.out.lt
            clear hs1 hrp hinv hst hbe3 hfar3 hr3 hown3 htab3 HPG HPD HQ HRP HI HB HROW d0 d1 d2 d3 d4 d5 f1 f2 f3 f4 f5 f6 hgl
            by_cases hmany : 1024 < s1.all.length
            · have f7 : decide ((1024 : Int) < (s1.all.length : Int)) = true := decide_eq_true (by omega)
              have HMANY := Lib.hid hmany
              clear hmany
              go_wp2_with fail
              go_ret2
              have ha : Pg.ans rows base = ([], 4) := by
                unfold Pg.ans
                rw [if_neg (by rw [HR0.out]; simp), ← HRP1.out, if_pos HMANY.out]
              rw [ha]
              exact ⟨none, 0, rfl, IsT.nil HBE3.out.1⟩
            · have f7 : decide ((1024 : Int) < (s1.all.length : Int)) = false := decide_eq_false (by omega)
              have HMANY := Lib.hid hmany
              clear hmany
              obtain ⟨X2, hX2⟩ : ∃ X2, X2 = X + U := ⟨_, rfl⟩
              have f8 : IntKind.u64.wrap ((X : Int) + (U : Int)) = (X2 : Int) := by rw [IntKind.wrap_u64]; omega
              have f9 : ((X : Int) + (U : Int)) % 18446744073709551616 = (X2 : Int) := by omega
              have f10 : ((X : Int) + (U : Int)) = (X2 : Int) := by omega
              have HX2 := Lib.hid hX2
              clear hX2
              go_wp2_with fail
              refine (unit_any ⟨v, p, nm, bg, wt, ex⟩ w3).mono ?_
              rintro e w4 ⟨rfl, hb4⟩
              rw [← HU.out]
              have HBD4 := Lib.hid (HBD3.out.below hb4)
              have HROW4 := Lib.hid (HROW3.out.below hb4 hlgl)
              have HBE4 : Hid (Below w.heap.size w w4 ∧ B ≤ w4.heap.size) := Lib.hid ⟨HBE3.out.1.trans (hb4.mono HBE3.out.1.size), Nat.le_trans HBE3.out.2 hb4.size⟩
              clear hb4 HBD3 HROW3 HBE3 k1 k3 k4 k5 k6 k7 k8 hlgl hlg
              go_wp2
              go_roundw
              case rel =>
                refine ⟨j + 1, X2, s1, HJC.out, by rw [HX2.out, HX.out, Nat.succ_mul], rfl, HBD4, Lib.hid (HINV.out (by have := HMANY.out; omega)), Lib.hid ?_, HROW4, HBE4⟩
                have := HRP1.out
                rw [if_neg HMANY.out] at this
                exact this
              case measure => have := HX2.out; simp [intOf]; omega
          · have hXe : X = nm * 4096 := by
              rw [← HCU.out, HX.out, show j = C by omega]
            have f7 : decide ((X : Int) < (nm : Int) * 4096) = false := decide_eq_false (by omega)
            have HJ : Hid (j = C) := Lib.hid (by omega)
            have HRP1 : Hid (Pg.runP base s (Pg.pagesOf (rows.drop (k + 1))) = Pg.runP base Pg.init (Pg.pagesOf rows)) := Lib.hid (by
              have := HRP.out
              rw [HJ.out, HC.out, List.drop_of_length_le (by rw [Pg.pages_len]; exact Nat.le_refl _), List.nil_append] at this
              exact this)
            clear hXe hjc HRP
            go_wp2_with fail
            go_roundw
            case rel => exact ⟨k + 1, s, by omega, by go_num, HBD, HI, HRP1, HB⟩
            case measure => simp [intOf]; omega
      · have HK : Hid (k = n) := Lib.hid (by omega)
        have hrp := HRP.out
        rw [HK.out, List.drop_of_length_le (Nat.le_of_eq HL.out), show Pg.pagesOf [] = [] from rfl] at hrp
        have HRP1 := Lib.hid hrp
        have HBD1 := HBD
        obtain ⟨ga, cb, hr3, hown3, htab3⟩ := HBD1.out
        have k1 := hr3.cell 1
        simp only [bcells, List.getElem?_cons_zero, List.getElem?_cons_succ] at k1
        have hlg := hr3.lt
        have HT := Lib.hid htab3
        have HO := Lib.hid hown3
        clear hr3 hown3 htab3 hrp HRP
        go_wp2_with fail
        go_ret2
        have ha : Pg.ans rows base = (s.all, 0) := by
          unfold Pg.ans
          rw [if_neg (by rw [HR0.out]; simp), ← HRP1.out]
          rfl
        rw [ha]
        refine ⟨some ⟨ga, 0, none⟩, cb, rfl, ?_, HT.out, HB.out.1⟩
        exact own_mono HO.out HWB.out
  · have f0 : ((R : Int) != 0) = true := by rw [bne_iff_ne]; omega
    have HR := Lib.hid hR
    have HNZ := Lib.hid h0
    clear hR h0
    go_wp2_with fail
    go_ret2
    have ha : Pg.ans rows base = ([], R) := by
      unfold Pg.ans
      rw [if_pos (by rw [← HR.out]; exact HNZ.out), HR.out]
    rw [ha]
    exact ⟨none, 0, rfl, IsT.nil HB1.out⟩
end Go.Proofs.Ytblfagmoilhdnaa

/- The walks of pages.Build and pages.Count. -/
set_option linter.unusedVariables false
set_option linter.unusedSimpArgs false
namespace Go.Proofs.Ytblfagmoilhdnaa
open Go.RowKit

namespace Pg
/-- what Build tells -/
def ansB (rows : List Lf) (base : Nat) : List (List Nat) × Nat :=
  let a := ans rows (base / 4096 * 4096 % 4294967296)
  if a.2 ≠ 0 then ([], a.2) else if base % 4096 ≠ 0 then ([], 33)
  else if 4294967296 ≤ base ∨ (4294967296 - base) / 4096 < a.1.length then ([], 34) else a
theorem ans_len (rows : List Lf) (base : Nat) (h : (ans rows base).2 = 0) : 0 < (ans rows base).1.length ∧ (ans rows base).1.length ≤ 1024 := by
  have aux : ∀ (qs : List Pge) (s s' : St), 0 < s.all.length → s.all.length ≤ 1024 → runP base s qs = some s' → 0 < s'.all.length ∧ s'.all.length ≤ 1024 := by
    intro qs
    induction qs with
    | nil => intro s s' h1 h2 h; cases h; exact ⟨h1, h2⟩
    | cons q r ih =>
      intro s s' h1 h2 h
      rw [runP_cons] at h
      split at h
      · cases h
      · have := step_len base s q
        exact ih _ _ (by omega) (by omega) h
  unfold ans at h ⊢
  split
  · rename_i h0; rw [if_pos h0] at h; exact absurd h h0
  · rename_i h0
    rw [if_neg h0] at h
    cases hr : runP base init (pagesOf rows) with
    | none => rw [hr] at h; cases h
    | some s => exact aux _ _ _ (by decide) (by decide) hr
theorem ans_nil (rows : List Lf) (base : Nat) (h : (ans rows base).2 ≠ 0) : (ans rows base).1 = [] := by
  unfold ans at h ⊢
  split
  · rfl
  · rename_i h0
    rw [if_neg h0] at h
    cases hr : runP base init (pagesOf rows) with
    | none => rfl
    | some s => rw [hr] at h; exact absurd rfl h
theorem ans_small (rows : List Lf) (base : Nat) : (ans rows base).2 < 121 := by
  have aux : ∀ (rows : List Lf) (bh : Nat), right bh rows < 121 := by
    intro rows
    induction rows with
    | nil => intro bh; exact Nat.zero_lt_succ _
    | cons r rs ih =>
      intro bh
      unfold right
      repeat' split
      all_goals first | decide | exact ih _
  unfold ans
  split
  · exact aux _ _
  · cases runP base init (pagesOf rows)
    · decide
    · exact Nat.zero_lt_succ _
theorem and_page (a : Nat) (h : a < 18446744073709551616) : a &&& (18446744073709551615 - 4095) = a / 4096 * 4096 := by
  apply Nat.eq_of_testBit_eq
  intro i
  rw [Nat.testBit_and, show (18446744073709551615 - 4095 : Nat) = 2 ^ 12 * (2 ^ 52 - 1) by decide, show a / 4096 * 4096 = 2 ^ 12 * (a / 2 ^ 12) by omega, Nat.testBit_two_pow_mul, Nat.testBit_two_pow_mul, Nat.testBit_two_pow_sub_one, Nat.testBit_div_two_pow]
  by_cases h1 : 12 ≤ i
  · rw [show i - 12 + 12 = i by omega]
    by_cases h2 : i - 12 < 52
    · simp [h1, h2]
    · rw [Nat.testBit_lt_two_pow (x := a) (i := i) (Nat.lt_of_lt_of_le h (by rw [show (18446744073709551616 : Nat) = 2 ^ 64 by decide]; exact Nat.pow_le_pow_right (by omega) (by omega)))]
      simp
  · simp [h1]
end Pg
set_option maxRecDepth 100000 in
theorem count_any (A : Option Addr) (n c : Nat) (rows : List Pg.Lf) (w : World) (hr : IsL w w.heap.size A n rows) :
    Calls Try.prog 19 #[.slice A n c] w fun e w' => e = .returned (.tuple #[.int .i64 ((Pg.ans rows 0).1.length : Nat), .int .i64 ((Pg.ans rows 0).2 : Nat)]) ∧ Below w.heap.size w w' := by
  have HB := Lib.hid (build_any A n c 0 rows w hr (by decide) (by decide))
  clear hr
  obtain ⟨a, ha⟩ : ∃ a, a = Pg.ans rows 0 := ⟨_, rfl⟩
  rw [← ha] at HB ⊢
  obtain ⟨l, f⟩ := a
  clear ha
  go_enter Try.func19, Try.ntmps19
  go_wp2_with fail
  refine HB.out.mono ?_
  rintro e w1 ⟨A', c', rfl, hi⟩
  have HI := Lib.hid hi
  clear hi HB
  unfold tansV
  go_wp2_with fail
  go_ret2
  exact ⟨rfl, HI.out.2.2⟩
set_option maxRecDepth 100000 in
theorem Build_any (A : Option Addr) (n c base : Nat) (rows : List Pg.Lf) (w : World) (hr : IsL w w.heap.size A n rows) (hbl : base < 18446744073709551616) :
    Calls Try.prog 18 #[.slice A n c, .int .u64 (base : Nat)] w fun e w' => ∃ A' c', e = .returned (tansV A' c' (Pg.ansB rows base)) ∧ IsT w w' A' c' (Pg.ansB rows base).1 := by
  obtain ⟨B, hB⟩ : ∃ B, B = base / 4096 * 4096 := ⟨_, rfl⟩
  obtain ⟨B2, hB2⟩ : ∃ B2, B2 = B % 4294967296 := ⟨_, rfl⟩
  have HB := Lib.hid (build_any A n c B2 rows w hr (by omega) (by omega))
  have h1 : bits .andNot .u64 (base : Int) 4095 = (B : Int) := by rw [hB]; rw [← Pg.and_page base hbl]; exact u64_andNot_nat base 4095 hbl (by decide)
  have h2 : (B : Int).tmod 4294967296 = (B2 : Int) := by rw [Int.tmod_eq_emod_of_nonneg (by omega)]; omega
  have h3 : (B : Int) % 4294967296 = (B2 : Int) := by omega
  have h4 : (base : Int) % 4096 = ((base % 4096 : Nat) : Int) := by omega
  obtain ⟨M, hM⟩ : ∃ M, M = base % 4096 := ⟨_, rfl⟩
  rw [← hM] at h4
  have h5 : (base : Int).tmod 4096 = (M : Int) := by rw [Int.tmod_eq_emod_of_nonneg (by omega)]; exact h4
  have HL := Lib.hid (Pg.ans_len rows B2)
  have hans : Pg.ansB rows base = (if (Pg.ans rows B2).2 ≠ 0 then ([], (Pg.ans rows B2).2) else if M ≠ 0 then ([], 33) else if 4294967296 ≤ base ∨ (4294967296 - base) / 4096 < (Pg.ans rows B2).1.length then ([], 34) else (Pg.ans rows B2)) := by
    rw [hM, hB2, hB]; rfl
  obtain ⟨a, ha⟩ : ∃ a, a = Pg.ans rows B2 := ⟨_, rfl⟩
  rw [← ha] at HB HL hans
  obtain ⟨l, f⟩ := a
  simp only at hans
  obtain ⟨res, hres⟩ : ∃ r, r = Pg.ansB rows base := ⟨_, rfl⟩
  rw [← hres] at hans ⊢
  have HRES := Lib.hid hans
  clear ha hans hres hM hB hB2 hr
  go_enter Try.func18, Try.ntmps18
  go_wp2_with fail
  refine HB.out.mono ?_
  rintro e w1 ⟨A', c', rfl, hi⟩
  have HI := Lib.hid hi
  clear hi HB
  unfold tansV
  by_cases hf : f = 0
  · have g1 : ((f : Int) != 0) = false := by rw [bne_eq_false_iff_eq]; omega
    have hl := HL.out hf
    have hl1 := hl.1
    have hl2 := hl.2
    have HF := Lib.hid hf
    clear hf hl
    by_cases hm : M = 0
    · have g2 : ((M : Int) != 0) = false := by rw [bne_eq_false_iff_eq]; omega
      have HM := Lib.hid hm
      clear hm
      by_cases he : 4294967296 ≤ base ∨ (4294967296 - base) / 4096 < l.length
      · have HE := Lib.hid (ends_no base l.length 4294967296 w1 he (by omega) hbl (by omega))
        have HQ := Lib.hid he
        clear he
        go_wp2_with fail
        refine HE.out.mono ?_
        rintro e w2 ⟨rfl, rfl⟩
        go_wp2_with fail
        go_ret2
        rw [HRES.out, if_neg (by simp [HF.out]), if_neg (by simp [HM.out]), if_pos HQ.out]
        exact ⟨none, 0, rfl, IsT.nil HI.out.2.2⟩
      · have HE := Lib.hid (ends_ok base l.length 4294967296 w1 (by omega) (by omega) (by omega))
        have HQ := Lib.hid he
        clear he
        go_wp2_with fail
        refine HE.out.mono ?_
        rintro e w2 ⟨rfl, rfl⟩
        go_wp2_with fail
        go_ret2
        rw [HRES.out, if_neg (by simp [HF.out]), if_neg (by simp [HM.out]), if_neg HQ.out]
        have hff := HF.out
        subst hff
        exact ⟨A', c', rfl, HI.out⟩
    · have g2 : ((M : Int) != 0) = true := by rw [bne_iff_ne]; omega
      have HM := Lib.hid hm
      clear hm
      go_wp2_with fail
      go_ret2
      rw [HRES.out, if_neg (by simp [HF.out]), if_pos HM.out]
      exact ⟨none, 0, rfl, IsT.nil HI.out.2.2⟩
  · have g1 : ((f : Int) != 0) = true := by rw [bne_iff_ne]; omega
    have HF := Lib.hid hf
    clear hf
    go_wp2_with fail
    go_ret2
    rw [HRES.out, if_pos HF.out]
    exact ⟨none, 0, rfl, IsT.nil HI.out.2.2⟩
end Go.Proofs.Ytblfagmoilhdnaa

/- The walk of PagesNames: the tables of no rows, and of one page. -/
set_option linter.unusedVariables false
set_option linter.unusedSimpArgs false
namespace Go.Proofs.Ytblfagmoilhdnaa
open Go.RowKit

def oneRow : Pg.Lf := ⟨12288, 32768, 1, false, true, false⟩
theorem ans_none : Pg.ansB [] 4096 = ([Pg.zero512], 0) := by kernel_rfl
theorem ansB_one : ((Pg.ansB [oneRow] 65536).2, (Pg.ansB [oneRow] 65536).1.length) = (0, 3) := by kernel_rfl
theorem ans_one : ((Pg.ans [oneRow] 0).2, (Pg.ans [oneRow] 0).1.length) = (0, 3) := by kernel_rfl
theorem ansB_cells : (((Pg.ansB [oneRow] 65536).1.getD 0 []).getD 0 0, ((Pg.ansB [oneRow] 65536).1.getD 1 []).getD 0 0, ((Pg.ansB [oneRow] 65536).1.getD 2 []).getD 3 0, ((Pg.ansB [oneRow] 65536).1.getD 2 []).getD 0 0) = (69633, 73729, 32771, 0) := by kernel_rfl
theorem isL_nil (w : World) (B : Nat) : IsL w B none 0 [] := ⟨⟨rfl, fun h => absurd h (by omega)⟩, by simp, rfl, by omega⟩
theorem isL_one (w : World) (r : Pg.Lf) (hr : r.In) : IsL (w.alloc (.cells (lcells r).toArray 47)) (w.alloc (.cells (lcells r).toArray 47)).heap.size (some ⟨w.heap.size, 0, none⟩) 1 [r] := by
  have h := Row.new w 47 (lcells r)
  refine ⟨⟨rfl, fun _ => ⟨_, rfl, h.lt, fun j u hu => ?_⟩⟩, by simpa using hr, rfl, by omega⟩
  rw [Addr.add_mid, Nat.zero_add, h.cell]
  simpa using hu
theorem IsT.form {w w' : World} {A : Option Addr} {c : Nat} {l : List (List Nat)} (h : IsT w w' A c l) (hl : 0 < l.length) : ∃ g, A = some ⟨g, 0, none⟩ ∧ w.heap.size ≤ g ∧ g < w'.heap.size ∧ l.length ≤ c ∧ c ≤ maxLen ∧
    (∀ t e, t < l.length → e < 512 → w'.cell? ⟨g, t * 512 + e, none⟩ = some (.int .u64 ((l.getD t []).getD e 0 : Nat))) := by
  obtain ⟨ho, ht, hb⟩ := h
  obtain ⟨g, rfl, h1, h2, h3, h4⟩ := own_some ho hl
  refine ⟨g, rfl, h1, h2, h3, h4, fun t e h5 h6 => ?_⟩
  rw [show t * 512 + e = 512 * t + e by omega, ho.cellAt (512 * t + e) (by omega), tcells_at ht h5 h6]
  rfl
theorem zeros_get (n i : Nat) (h : i < n) : (zeros n)[i]? = some (.int .u64 0) := by
  unfold zeros
  rw [List.getElem?_replicate, if_pos h]
  rfl
theorem zero512_get (e : Nat) (h : e < 512) : ([Pg.zero512].getD 0 []).getD e 0 = 0 := by
  unfold Pg.zero512
  show (List.replicate 512 0).getD e 0 = 0
  rw [List.getD_eq_getElem?_getD, List.getElem?_replicate]
  split <;> rfl
set_option maxRecDepth 100000 in
set_option maxHeartbeats 1000000 in
theorem pagesnames_walk (w : World) : Calls Try.prog 4 #[] w fun e w' => e = .returned (.bool true) ∧ Below w.heap.size w w' := by
  have hb0 := Build_any none 0 0 4096 [] w (isL_nil _ _) (by decide)
  rw [ans_none] at hb0
  have HB0 := Lib.hid hb0
  clear hb0
  go_enter Try.func4, Try.ntmps4
  go_wp2_with fail
  refine HB0.out.mono ?_
  rintro e w1 ⟨A1, c1, rfl, hi1⟩
  obtain ⟨g1, rfl, hg1, hl1, hc1, hm1, hcell⟩ := hi1.form (by simp)
  unfold tansV maxLen at *
  simp only [List.length_cons, List.length_nil] at hc1 ⊢
  obtain ⟨hz, hsz⟩ := zero_of_info infoTabZ
  have hrg : w1.rangeAt g1 0 (zeros 512) := fun j v hv => by
    have hj := (List.getElem?_eq_some_iff.1 hv).1
    have hj : j < 512 := by rw [show (zeros 512).length = 512 from List.length_replicate] at hj; exact hj
    have := hcell 0 j (by simp) hj
    rw [zeros_get 512 j hj] at hv
    injection hv with hv
    rw [← hv, zero512_get j hj, show 0 * 512 + j = 0 + j from rfl] at *
    exact this
  obtain ⟨V, hV⟩ : ∃ V, V = zeros 512 := ⟨_, rfl⟩
  rw [← hV] at hz hrg
  have HRG := Lib.hid hrg
  have HVL : Hid (V.length = 512) := Lib.hid (by rw [hV]; simp [zeros])
  have HEQ : Hid (∀ w : World, (Op.equalIn 10000 24 (.agg V.toArray) (.agg V.toArray)).run Try.prog w = .ok true w) := Lib.hid fun w => tab_eq_self V (fun i hi => by
    rw [hV]; rw [HVL.out] at hi
    exact ⟨0, zeros_get 512 i hi⟩) HVL.out w
  have heq := HEQ.out
  have B1 := Lib.hid hi1.2.2
  clear hV hrg hcell hi1 HB0
  have hin : oneRow.In := by unfold Pg.Lf.In oneRow; decide
  obtain ⟨a1, ha1⟩ : ∃ a, a = Pg.ansB [oneRow] 65536 := ⟨_, rfl⟩
  obtain ⟨a2, ha2⟩ : ∃ a, a = Pg.ans [oneRow] 0 := ⟨_, rfl⟩
  have q1 := ansB_one
  have q2 := ans_one
  have q3 := ansB_cells
  rw [← ha1] at q1 q3
  rw [← ha2] at q2
  obtain ⟨l1, f1⟩ := a1
  obtain ⟨l2, f2⟩ := a2
  simp only [Prod.mk.injEq] at q1 q2 q3
  obtain ⟨rfl, q1⟩ := q1
  obtain ⟨rfl, q2⟩ := q2
  obtain ⟨r1, r2, r3, r4⟩ := q3
  have HB2 : Hid (∀ w1 : World, Calls Try.prog 18 #[.slice (some ⟨w1.heap.size, 0, none⟩) 1 1, .int .u64 65536] (w1.alloc (.cells #[.int .u64 12288, .int .u64 32768, .int .i64 1, .bool false, .bool true, .bool false] 47)) fun e w' => ∃ A' c', e = .returned (.tuple #[.slice A' 3 c', .int .i64 0]) ∧ IsT (w1.alloc (.cells #[.int .u64 12288, .int .u64 32768, .int .i64 1, .bool false, .bool true, .bool false] 47)) w' A' c' l1) := Lib.hid fun w1 => by
    have h := Build_any (some ⟨w1.heap.size, 0, none⟩) 1 1 65536 [oneRow] _ (isL_one w1 oneRow hin) (by decide)
    rw [← ha1] at h
    unfold tansV at h
    simp only [q1] at h
    exact h
  have HB3 : Hid (∀ w1 : World, Calls Try.prog 19 #[.slice (some ⟨w1.heap.size, 0, none⟩) 1 1] (w1.alloc (.cells #[.int .u64 12288, .int .u64 32768, .int .i64 1, .bool false, .bool true, .bool false] 47)) fun e w' => e = .returned (.tuple #[.int .i64 3, .int .i64 0]) ∧ Below (w1.heap.size + 1) (w1.alloc (.cells #[.int .u64 12288, .int .u64 32768, .int .i64 1, .bool false, .bool true, .bool false] 47)) w') := Lib.hid fun w1 => by
    have h := count_any (some ⟨w1.heap.size, 0, none⟩) 1 1 [oneRow] _ (isL_one w1 oneRow hin)
    rw [← ha2] at h
    simp only [q2] at h
    refine h.mono fun e w' h => ⟨h.1, ?_⟩
    have h2 := h.2
    rw [show (w1.alloc (.cells (lcells oneRow).toArray 47)).heap.size = w1.heap.size + 1 by simp] at h2
    exact h2
  have HL1 := Lib.hid q1
  have HR1 := Lib.hid r1; have HR2 := Lib.hid r2; have HR3 := Lib.hid r3; have HR4 := Lib.hid r4
  clear ha1 ha2 q1 q2 r1 r2 r3 r4 hin
  go_upto_region 5 with (first | (refine wpList_load_midw (by rfl) _ _ rfl _ _ (by rfl) V (.array 512 22) HRG.out Try.underlying24 rfl (by rw [infoTab, HVL.out]) ?_))
  clear heq hz
  go_wp2_with fail
  refine (HB2.out w1).mono ?_
  rintro e w2 ⟨A2, c2, rfl, hi2⟩
  obtain ⟨g2, rfl, hg2, hl2, hc2, hm2, hcell⟩ := hi2.form (by rw [HL1.out]; omega)
  have k1 := hcell 0 0 (by rw [HL1.out]; omega) (by omega)
  have k2 := hcell 1 0 (by rw [HL1.out]; omega) (by omega)
  have k3 := hcell 2 3 (by rw [HL1.out]; omega) (by omega)
  have k4 := hcell 2 0 (by rw [HL1.out]; omega) (by omega)
  rw [HR1.out] at k1; rw [HR2.out] at k2; rw [HR3.out] at k3; rw [HR4.out] at k4
  rw [HL1.out] at hc2
  simp only [Nat.zero_mul, Nat.zero_add, Nat.one_mul] at k1 k2 k3 k4
  have K1 := Lib.hid k1; have K2 := Lib.hid k2; have K3 := Lib.hid k3; have K4 := Lib.hid k4
  have B2 := Lib.hid ((B1.out.alloc B1.out.size _).trans (hi2.2.2.mono (by have := B1.out.size; simp; omega)))
  clear hi2 hcell k1 k2 k3 k4 HB2 B1
  go_wp2_with fail
  refine (HB3.out w2).mono ?_
  rintro e w3 ⟨rfl, hb3⟩
  have hbl : Below w2.heap.size w2 w3 := ((Below.refl _ _).alloc (Nat.le_refl _) _).trans (hb3.mono (by omega))
  have k1 := (hbl.cell (p := ⟨g2, 0, none⟩) hl2).trans K1.out
  have k2 := (hbl.cell (p := ⟨g2, 512, none⟩) hl2).trans K2.out
  have k3 := (hbl.cell (p := ⟨g2, 2 * 512 + 3, none⟩) hl2).trans K3.out
  have k4 := (hbl.cell (p := ⟨g2, 2 * 512, none⟩) hl2).trans K4.out
  have hl3 : g2 < w3.heap.size := Nat.lt_of_lt_of_le hl2 hbl.size
  have B3 := Lib.hid (B2.out.trans (hbl.mono B2.out.size))
  simp only [Nat.reduceMul, Nat.reduceAdd] at k3 k4
  clear hb3 hbl K1 K2 K3 K4 B2 HB3 hl2
  go_wp2_with fail
  go_ret
  exact ⟨rfl, B3.out⟩
end Go.Proofs.Ytblfagmoilhdnaa
