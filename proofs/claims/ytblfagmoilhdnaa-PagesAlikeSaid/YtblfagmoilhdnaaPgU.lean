/- The walks of Same over tables and rows, and of few. -/
import Derived.Test.YtblfagmoilhdnaaPgT
import Derived.Test.YtblfagmoilhdnaaPgR
import Derived.Deep.QuietTactic
set_option linter.unusedVariables false
set_option linter.unusedSimpArgs false
namespace Go.Proofs.Ytblfagmoilhdnaa
open Go.RowKit

theorem quiet_wanted {P : Program} {ops : Array Oper} {C : World → Prop} {Q : Act → Prop} {a : Act} {o : Oper} {rest : List Oper} (hw : Region.wanted o (yielded ops a.tmps) = true) (h : ∀ K : Act → Prop, (∀ a, wpQuiet P ops C Q rest a → K a) → o.quiet P a C K) : wpQuiet P ops C Q (o :: rest) a :=
  wpQuiet_step fun K hK => by rw [if_pos hw]; exact h K hK
theorem quiet_load_mid {P : Program} {o : Oper} {a : Act} {C : World → Prop} {K : Act → Prop} (ty : TypeId) (x : Operand) (ho : o.op = .load ty x) (b k : Nat) (hx : a.eval x = .pointer (some ⟨b, k, none⟩)) (cs : List Value) (d : TypeDesc) (hc : ∀ w, C w → w.rangeAt b k cs)
    (hu : P.underlying ty = some d) (hd : d.isRow = true) (hi : (P.info? ty).map (·.size) = some cs.length) (hk : K (a.put o.dst (.agg cs.toArray))) : o.quiet P a C K :=
  ⟨_, fun w hw => by
    unfold Oper.quietAt execOp
    simp only [ho, hx, Instr.loadAt, Instr.sureAddr, Sem.run_bind, Sem.run_pure, Result.andThen_ok, run_loadVar_mid w b k ty cs d (hc w hw) hu hd hi]
    exact ⟨rfl, rfl⟩, hk⟩
theorem quiet_bin {P : Program} {o : Oper} {a : Act} {C : World → Prop} {K : Act → Prop} (b : BinOp) (t : TypeId) (x y : Operand) (s : TypeId) (ho : o.op = .binOp b t x y s) {xs ys : Array Value} {v : Value} (hx : a.eval x = .agg xs) (hy : a.eval y = .agg ys) (hm : P.eqGuardType P.depth t = false)
    (hrun : ∀ w, (binOp b t (.agg xs) (.agg ys)).run P w = .ok v w) (hk : K (a.put o.dst v)) : o.quiet P a C K :=
  ⟨_, fun w hw => by
    unfold Oper.quietAt execOp
    simp only [ho, hx, hy, Sem.run_bind, run_eqGuard_agg (hm := hm), hrun, Result.andThen_ok, Sem.run_pure]
    exact ⟨rfl, rfl⟩, hk⟩
theorem guardTab : Try.prog.eqGuardType Try.prog.depth 24 = false := by kernel_rfl
theorem neqT (V : List Value) (hV : ∀ i, i < V.length → ∃ n, V[i]? = some (.int .u64 n)) (hl : V.length = 512) (w : World) : (binOp .neq 24 (.agg V.toArray) (.agg V.toArray)).run Try.prog w = .ok (.bool false) w := by
  have heq := tab_eq_self V hV hl w
  go_simp
theorem neqL (w : World) (a : Pg.Lf) : (binOp .neq 47 (lfV a) (lfV a)).run Try.prog w = .ok (.bool false) w := by
  obtain ⟨a1, a2, a3, a4, a5, a6⟩ := a
  unfold lfV
  go_simp
theorem u64V_at (t : List Nat) (i : Nat) (h : i < (t.map u64v).length) : ∃ n, (t.map u64v)[i]? = some (.int .u64 n) := by
  rw [List.length_map] at h
  exact ⟨_, by rw [List.getElem?_map, List.getElem?_eq_getElem h]; rfl⟩
/-- a list of tables, read -/
def HasT (w : World) (A : Option Addr) (l : List (List Nat)) : Prop := Tabs l ∧ l.length ≤ 9223372036854775807 ∧ (0 < l.length → ∃ g, A = some ⟨g, 0, none⟩ ∧ g < w.heap.size ∧ ∀ t, t < l.length → w.rangeAt g (t * 512) ((l.getD t []).map u64v))
theorem IsT.has {w w' : World} {A : Option Addr} {c : Nat} {l : List (List Nat)} (h : IsT w w' A c l) (hl : l.length ≤ 9223372036854775807) : HasT w' A l := by
  refine ⟨h.2.1, hl, fun h0 => ?_⟩
  obtain ⟨g, rfl, _, h2, _, _, hc⟩ := h.form h0
  refine ⟨g, rfl, h2, fun t ht j v hv => ?_⟩
  have hm : l.getD t [] ∈ l := by simp [List.getD_eq_getElem?_getD, ht]
  have hlen := (h.2.1 _ hm).1
  have hj : j < 512 := by have := (List.getElem?_eq_some_iff.1 hv).1; rw [List.length_map, hlen] at this; exact this
  rw [hc t j ht hj, ← hv, List.getElem?_map, List.getD_eq_getElem?_getD (l := l.getD t []), List.getElem?_eq_getElem (by rw [hlen]; exact hj)]
  rfl
theorem HasT.below {w w' : World} {A : Option Addr} {l : List (List Nat)} (h : HasT w A l) (hb : Below w.heap.size w w') : HasT w' A l := by
  refine ⟨h.1, h.2.1, fun h0 => ?_⟩
  obtain ⟨g, rfl, h2, hc⟩ := h.2.2 h0
  exact ⟨g, rfl, Nat.lt_of_lt_of_le h2 hb.size, fun t ht j v hv => (hb.cell (p := ⟨g, t * 512 + j, none⟩) h2).trans (hc t ht j v hv)⟩
set_option maxRecDepth 100000 in
set_option maxHeartbeats 1000000 in
theorem sameT_yes (A A' : Option Addr) (n c c' : Nat) (l : List (List Nat)) (w : World) (hn : n = l.length) (ha : HasT w A l) (hb : HasT w A' l) :
    Calls Try.prog 29 #[.slice A n c, .slice A' n c'] w fun e w' => e = .returned (.bool true) ∧ ∃ m, w' = w.drewN m := by
  have HN := Lib.hid hn
  have HA := Lib.hid ha
  have HB := Lib.hid hb
  have hn63 := ha.2.1
  rw [← hn] at hn63
  clear hn ha hb
  go_enter Try.func29, Try.ntmps29
  go_wp2
  go_loopw [5] (fun i wr => ∃ j m : Nat, j ≤ n ∧ i = .int .i64 j ∧ wr = w.drewN m) (fun i _ => n - (intOf i).toNat)
  case atStart => exact ⟨0, 0, by omega, rfl, rfl⟩
  case round =>
    obtain ⟨j, m, hj, rfl, rfl⟩ := hrel
    by_cases hjn : j < n
    · obtain ⟨g, rfl, hg, hc⟩ := HA.out.2.2 (by rw [← HN.out]; omega)
      obtain ⟨g', rfl, hg', hc'⟩ := HB.out.2.2 (by rw [← HN.out]; omega)
      have h1 := hc j (by rw [← HN.out]; omega)
      have h2 := hc' j (by rw [← HN.out]; omega)
      have hm : l.getD j [] ∈ l := by simp [List.getD_eq_getElem?_getD, show j < l.length by rw [← HN.out]; omega]
      have hlen := (HA.out.1 _ hm).1
      have hne := fun wx => neqT ((l.getD j []).map u64v) (u64V_at _) (by rw [List.length_map, hlen]) wx
      obtain ⟨V, hV⟩ : ∃ V, V = (l.getD j []).map u64v := ⟨_, rfl⟩
      rw [← hV] at h1 h2 hne
      have HVL : Hid (V.length = 512) := Lib.hid (by rw [hV, List.length_map, hlen])
      have HNE := Lib.hid hne
      have H1 : Hid (∀ w' : World, (∃ k, w' = (w.drewN m).drewN k) → w'.rangeAt g (j * 512) V) := Lib.hid (by rintro w' ⟨k, rfl⟩; exact h1)
      have H2 : Hid (∀ w' : World, (∃ k, w' = (w.drewN m).drewN k) → w'.rangeAt g' (j * 512) V) := Lib.hid (by rintro w' ⟨k, rfl⟩; exact h2)
      clear hc hc' h1 h2 hm hlen hne hV HA HB
      go_wp2_with fail
      refine wp_region_quiet_lit (by kernel_rfl) (by kernel_rfl) ?_
      repeat (first
        | (refine quiet_wanted (by rfl) (fun K hK => ?_)
           first
             | refine quiet_load_mid _ _ rfl _ _ (by rfl) V (.array 512 22) H1.out Try.underlying24 rfl (by rw [infoTab, HVL.out]) (hK _ ?_)
             | refine quiet_load_mid _ _ rfl _ _ (by rfl) V (.array 512 22) H2.out Try.underlying24 rfl (by rw [infoTab, HVL.out]) (hK _ ?_)
             | refine quiet_bin .neq 24 (.tmp 20) (.tmp 24) _ rfl (by rfl) (by rfl) guardTab HNE.out (hK _ ?_))
        | quiet_step (fail))
      refine wpQuiet_nil ?_
      rintro w' ⟨nq, rfl⟩
      go_wp2
      go_roundw
      case rel => exact ⟨j + 1, _, by omega, by go_num, rfl⟩
      case measure => simp [intOf]; omega
    · have HJ : Hid (j = n) := Lib.hid (by omega)
      go_wp2
      go_ret
      exact ⟨rfl, _, rfl⟩
theorem OwnL.isL {w : World} {B c : Nat} {A : Option Addr} {l : List Pg.Lf} (h : OwnL w B A c l) (hi : ∀ r ∈ l, r.In) (hl : l.length ≤ 9223372036854775807) : IsL w w.heap.size A l.length l := ⟨Reads.of_own h, hi, rfl, hl⟩
set_option maxRecDepth 100000 in
set_option maxHeartbeats 1000000 in
theorem sameL_yes (A A' : Option Addr) (n c c' : Nat) (l : List Pg.Lf) (w : World) (ha : IsL w w.heap.size A n l) (hb : IsL w w.heap.size A' n l) :
    Calls Try.prog 30 #[.slice A n c, .slice A' n c'] w fun e w' => e = .returned (.bool true) ∧ ∃ m, w' = w.drewN m := by
  obtain ⟨b, off, HA⟩ := ha.form
  obtain ⟨b', off', HB⟩ := hb.form
  have HL := Lib.hid ha.2.2.1
  have hn63 := ha.2.2.2
  clear ha hb
  go_enter Try.func30, Try.ntmps30
  go_wp2
  go_loopw [5] (fun i wr => ∃ j m : Nat, j ≤ n ∧ i = .int .i64 j ∧ wr = w.drewN m) (fun i _ => n - (intOf i).toNat)
  case atStart => exact ⟨0, 0, by omega, rfl, rfl⟩
  case round =>
    obtain ⟨j, m, hj, rfl, rfl⟩ := hrel
    by_cases hjn : j < n
    · obtain ⟨rfl, hg, hc⟩ := HA.out (by omega)
      obtain ⟨rfl, hg', hc'⟩ := HB.out (by omega)
      obtain ⟨r, hrk⟩ : ∃ r, l[j]? = some r := ⟨_, List.getElem?_eq_getElem (by have := HL.out; omega)⟩
      have c0 := hc j r hrk 0 _ rfl
      have c1 := hc j r hrk 1 _ rfl
      have c2 := hc j r hrk 2 _ rfl
      have c3 := hc j r hrk 3 _ rfl
      have c4 := hc j r hrk 4 _ rfl
      have c5 := hc j r hrk 5 _ rfl
      have d0 := hc' j r hrk 0 _ rfl
      have d1 := hc' j r hrk 1 _ rfl
      have d2 := hc' j r hrk 2 _ rfl
      have d3 := hc' j r hrk 3 _ rfl
      have d4 := hc' j r hrk 4 _ rfl
      have d5 := hc' j r hrk 5 _ rfl
      obtain ⟨v, p, q, bg, wt, ex⟩ := r
      have hne := fun wx => neqL wx ⟨v, p, q, bg, wt, ex⟩
      unfold lfV at hne
      simp only [Nat.add_zero] at c0 d0 hne
      clear hc hc' HA HB
      go_wp2_with fail
      go_quiet (fail)
      go_wp2
      go_roundw
      case rel => exact ⟨j + 1, _, by omega, by go_num, rfl⟩
      case measure => simp [intOf]; omega
    · have HJ : Hid (j = n) := Lib.hid (by omega)
      go_wp2
      go_ret
      exact ⟨rfl, _, rfl⟩
def AnyBool (e : Ending) : Prop := ∃ b, e = .returned (.bool b)
/-- few: either answer -/
theorem few_some (A : Option Addr) (n c : Nat) (rows : List Pg.Lf) (w : World) (hr : IsL w w.heap.size A n rows) (hrt : Pg.right 0 rows = 0) :
    Calls Try.prog 22 #[.slice A n c] w fun e w' => AnyBool e ∧ w' = w := by
  obtain ⟨b, off, HF⟩ := hr.form
  have HL := Lib.hid hr.2.2.1
  have hn := hr.2.2.2
  have HRT := Lib.hid hrt
  clear hr hrt
  go_enter Try.func22, Try.ntmps22
  go_wp2
  go_loopw [3, 4] (fun x i wr => ∃ j X : Nat, j ≤ n ∧ i = .int .i64 j ∧ x = .int .i64 X ∧ X ≤ 135266304 ∧ wr = w) (fun _ i _ => n - (intOf i).toNat)
  case atStart => exact ⟨0, 0, by omega, rfl, rfl, by omega, rfl⟩
  case round =>
    obtain ⟨j, X, hj, rfl, rfl, hX, rfl⟩ := hrel
    by_cases hjn : j < n
    · obtain ⟨rfl, hg, hc⟩ := HF.out (by omega)
      obtain ⟨r, hrk⟩ : ∃ r, rows[j]? = some r := ⟨_, List.getElem?_eq_getElem (by have := HL.out; omega)⟩
      have hok := Pg.right_all HRT.out r (List.mem_of_getElem? hrk)
      have c2 := hc j r hrk 2 _ rfl
      have h1 := hok.n1
      have h5 := hok.vl
      obtain ⟨v, p, q, bg, wt, ex⟩ := r
      simp only at h1 h5
      obtain ⟨xn, rfl⟩ : ∃ xn : Nat, q = xn := ⟨q.toNat, by omega⟩
      simp only [Int.toNat_natCast] at h1 h5
      have h6 : xn ≤ 134217728 := by omega
      clear hc HF HRT hrk hok h5
      by_cases hx : X ≤ 1048576
      · go_wp2
        go_roundw
        case rel => exact ⟨j + 1, X + xn, by omega, by go_num, by go_num, by omega, trivial⟩
        case measure => simp [intOf]; omega
      · go_wp2
        go_ret
        first | exact ⟨_, rfl⟩ | exact ⟨⟨_, rfl⟩, rfl⟩
    · go_wp2
      all_goals
        go_ret
        first | exact ⟨_, rfl⟩ | exact ⟨⟨_, rfl⟩, rfl⟩
end Go.Proofs.Ytblfagmoilhdnaa
