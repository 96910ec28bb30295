/- The walk of the law SpanAll. -/
import Derived.Test.YtchajbegjajlkaaSoM64
import Derived.Test.YtchajbegjajlkaaSpR64
import Derived.Test.YtchajbegjajlkaaSpS64
import Derived.Test.YtchajbegjajlkaaQuS
import Derived.Test.YtchajbegjajlkaaBook
import Derived.Sort.BigQuietIn
import Derived.Sort.CutIn
import Derived.LoopN
import Derived.BigQuiet
import Derived.Shelf.RegionOpen
import Derived.RangeFuncNested
import Derived.RangeFuncBound
import Derived.RangeFuncCalls
import Derived.RangeFuncLeaves
import Derived.Laws.EntriesVeiled
import Derived.Deep.DeepCutAuto
import Derived.Deep.RegionHeld3
import Derived.Deep.CutBlock
set_option linter.unusedVariables false
set_option linter.unusedSimpArgs false
namespace Go.Proofs.Ytchajbegjajlkaa
open Go.RowKit
open S64
open Bu
attribute [local go_sem] Oper.semAt_some
theorem wp_midA {c : Code} {P : Program} {Q' : Exit → Act → World → Prop} {a : Act} {w : World} (R : World → Prop) (d : Deferred) (h1 : c.wp P (fun e a' W => e = .normal ∧ a' = { a with defers := d :: a.defers } ∧ R W) a w) (h2 : ∀ W, R W → Q' .normal { a with defers := d :: a.defers } W) : c.wp P Q' a w :=
  Code.wp_mono (fun e a' W ⟨he, ha, hr⟩ => by subst he ha; exact h2 W hr) h1
theorem neqS (wx : World) (a b : Nat) : (binOp .neq 35 (.agg #[.int .u64 (a : Nat), .int .u64 (b : Nat)]) (.agg #[.int .u64 (a : Nat), .int .u64 (b : Nat)])).run Try.prog wx = .ok (.bool false) wx := by
  go_simp
set_option maxRecDepth 100000 in
set_option maxHeartbeats 1000000 in
theorem sameS_yes (A A' : Option Addr) (n c c' : Nat) (l : Sp.S) (w : World) (ha : IsS w w.heap.size A n l) (hb : IsS w w.heap.size A' n l) :
    Calls Try.prog 14 #[.slice A n c, .slice A' n c'] w fun e w' => e = .returned (.bool true) ∧ ∃ m, w' = w.drewN m := by
  obtain ⟨b, off, HA⟩ := ha.form
  obtain ⟨b', off', HB⟩ := hb.form
  have HL := Lib.hid ha.2.1
  have hn63 := ha.2.2
  clear ha hb
  go_enter Try.func14, Try.ntmps14
  go_wp2
  go_loopw [5] (fun i wr => ∃ j m : Nat, j ≤ n ∧ i = .int .i64 j ∧ wr = w.drewN m) (fun i _ => n - (intOf i).toNat)
  case atStart => exact ⟨0, 0, by omega, rfl, rfl⟩
  case round =>
    obtain ⟨j, m, hj, rfl, rfl⟩ := hrel
    by_cases hjn : j < n
    · obtain ⟨rfl, hg, hc⟩ := HA.out (by omega)
      obtain ⟨rfl, hg', hc'⟩ := HB.out (by omega)
      obtain ⟨⟨a, s⟩, hrk⟩ : ∃ r, l[j]? = some r := ⟨_, List.getElem?_eq_getElem (by have := HL.out; omega)⟩
      obtain ⟨c0, c1⟩ := hc j _ hrk
      obtain ⟨d0, d1⟩ := hc' j _ hrk
      have hne := fun wx => neqS wx a s
      simp only at c0 c1 d0 d1
      clear hc hc' HA HB hrk
      go_wp2_with fail
      go_quiet (fail)
      go_wp2
      go_roundw
      case rel => exact ⟨j + 1, _, by omega, by go_num, rfl⟩
      case measure => simp [intOf]; omega
    · have HJ : Hid (j = n) := Lib.hid (by omega)
      go_wp2
      go_ret
      exact ⟨rfl, _, rfl⟩
set_option maxRecDepth 100000 in
theorem within1_any (n : Int) (k : Nat) (w : World) (hn : -9223372036854775808 ≤ n ∧ n ≤ 9223372036854775807) (hk1 : 1 ≤ k) (hk : k ≤ 4611686018427387903) :
    Calls Try.prog 9 #[.int .i64 n, .int .i64 1, .int .i64 k] w fun e w' => (∃ x : Nat, e = .returned (.int .i64 x) ∧ 1 ≤ x ∧ x ≤ k) ∧ w = w' := by
  obtain ⟨r, hr⟩ : ∃ r, r = n.tmod (k : Int) := ⟨_, rfl⟩
  have hlo : -(k : Int) < r := by rw [hr]; exact Int.lt_tmod_of_pos n (by omega)
  have hhi : r < (k : Int) := by rw [hr]; exact Int.tmod_lt_of_pos n (by omega)
  have hr2 := hr.symm
  have h0 : ((k : Int) == 0) = false := by simp; omega
  have e0 : (k : Int) - 1 + 1 = (k : Int) := by omega
  clear hr
  by_cases h : r < 0
  · go_enter Try.func9, Try.ntmps9
    go_wp2_with fail
    go_ret
    exact ⟨⟨(r + (k : Int) + 1).toNat, by simp; omega, by omega, by omega⟩, rfl⟩
  · go_enter Try.func9, Try.ntmps9
    go_wp2_with fail
    go_ret
    exact ⟨⟨(r + 1).toNat, by simp; omega, by omega, by omega⟩, rfl⟩
/-- what a round keeps; all of its cells lie below hi -/
structure AI (w : World) (hi c7 c8 c9 c10 g c12 : Nat) (As Aw : Option Addr) (ns cs cw nn : Nat) (S : Sp.S) (Ds : List Nat) (rd i : Nat) (W : World) : Prop where
  bel : Below w.heap.size w W
  r6 : Row W w.heap.size 4 [.bool false]
  r7 : Row W c7 26 [.slice As ns cs]
  r8 : Row W c8 24 [.slice Aw ns cw]
  r9 : Row W c9 3 [.int .i64 (nn : Nat)]
  r10 : Row W c10 3 [.int .i64 (i : Nat)]
  rg : Row W g 26 [.slice As ns cs]
  r12 : Row W c12 3 [.int .i64 (rd : Nat)]
  st : IsS W c7 As ns S
  wt : IsS W c8 Aw ns S
  lo : w.heap.size < c7 ∧ c7 < c8 ∧ c8 < c9 ∧ c9 < c10 ∧ c10 < g ∧ g < c12 ∧ c12 < hi
  dk : ∀ D ∈ Ds, W.heap[D]? = some (.deferred (some [])) ∧ g < D ∧ D < hi ∧ D ≠ c12
section
variable {w W W' : World} {hi c7 c8 c9 c10 g c12 : Nat} {As Aw : Option Addr} {ns cs cw nn : Nat} {S : Sp.S} {Ds : List Nat} {rd i : Nat}
theorem AI.chg {Y : Nat → Prop} (h : AI w hi c7 c8 c9 c10 g c12 As Aw ns cs cw nn S Ds rd i W) (hc : ChgP Y W W') (hY : ∀ k, Y k → hi ≤ k) : AI w hi c7 c8 c9 c10 g c12 As Aw ns cs cw nn S Ds rd i W' := by
  obtain ⟨l1, l2, l3, l4, l5, l6, l7⟩ := h.lo
  have hno : ∀ k, k < hi → ¬ Y k := fun k hk hy => by have := hY k hy; omega
  have s7 := h.r7.lt; have s8 := h.r8.lt
  exact ⟨h.bel.trans (hc.below h.bel.size (fun k hk => by have := hY k hk; omega)), hc.row h.r6 (hno _ (by omega)), hc.row h.r7 (hno _ (by omega)), hc.row h.r8 (hno _ (by omega)), hc.row h.r9 (hno _ (by omega)), hc.row h.r10 (hno _ (by omega)), hc.row h.rg (hno _ (by omega)), hc.row h.r12 (hno _ (by omega)),
    h.st.below (hc.below (by omega) (fun k hk => by have := hY k hk; omega)), h.wt.below (hc.below (by omega) (fun k hk => by have := hY k hk; omega)), h.lo, fun D hD => by
      obtain ⟨e1, e2, e3, e4⟩ := h.dk D hD
      exact ⟨by rw [hc.block D (Array.getElem?_eq_some_iff.1 e1).1 (hno D e3)]; exact e1, e2, e3, e4⟩⟩
theorem AI.set10 (h : AI w hi c7 c8 c9 c10 g c12 As Aw ns cs cw nn S Ds rd i W) (j : Nat) : AI w hi c7 c8 c9 c10 g c12 As Aw ns cs cw nn S Ds rd j (W.setCell ⟨c10, 0, none⟩ (.int .i64 (j : Nat))) := by
  obtain ⟨l1, l2, l3, l4, l5, l6, l7⟩ := h.lo
  have hc : ChgP (fun k => k = c10) W (W.setCell ⟨c10, 0, none⟩ (.int .i64 (j : Nat))) := ChgP.set_ (Z := fun k => k = c10) (ChgP.refl _ W) (p := ⟨c10, 0, none⟩) (.inl rfl) _
  have hno : ∀ k, k ≠ c10 → ¬ (fun k => k = c10) k := fun k hk hy => hk hy
  have s7 := h.r7.lt; have s8 := h.r8.lt
  exact ⟨h.bel.trans (hc.below h.bel.size (fun k hk => by have hk : k = c10 := hk; omega)), hc.row h.r6 (hno _ (by omega)), hc.row h.r7 (hno _ (by omega)), hc.row h.r8 (hno _ (by omega)), hc.row h.r9 (hno _ (by omega)), h.r10.set_ 0 _, hc.row h.rg (hno _ (by omega)), hc.row h.r12 (hno _ (by omega)),
    h.st.below (hc.below (by omega) (fun k hk => by have hk : k = c10 := hk; omega)), h.wt.below (hc.below (by omega) (fun k hk => by have hk : k = c10 := hk; omega)), h.lo, fun D hD => by
      obtain ⟨e1, e2, e3, e4⟩ := h.dk D hD
      exact ⟨by rw [hc.block D (Array.getElem?_eq_some_iff.1 e1).1 (hno D (by omega))]; exact e1, e2, e3, e4⟩⟩
theorem AI.fresh (h : AI w hi c7 c8 c9 c10 g c12 As Aw ns cs cw nn S Ds rd i W) (hb : Below W.heap.size W W') {c12' rd' : Nat} {Ds' : List Nat} (hhi : hi ≤ W.heap.size) (h12 : Row W' c12' 3 [.int .i64 (rd' : Nat)]) (k12 : W.heap.size ≤ c12') (hd : ∀ D ∈ Ds', W.heap[D]? = some (.deferred (some [])) ∧ g < D) :
    AI w W'.heap.size c7 c8 c9 c10 g c12' As Aw ns cs cw nn S Ds' rd' i W' := by
  have q := h.chg (ChgP.of_below (Z := fun _ => False) hb) (fun k hk => hk.elim)
  obtain ⟨l1, l2, l3, l4, l5, l6, l7⟩ := h.lo
  refine ⟨q.bel, q.r6, q.r7, q.r8, q.r9, q.r10, q.rg, h12, q.st, q.wt, ⟨l1, l2, l3, l4, l5, by omega, h12.lt⟩, fun D hD => ?_⟩
  obtain ⟨e1, e2⟩ := hd D hD
  have e3 := (Array.getElem?_eq_some_iff.1 e1).1
  exact ⟨by rw [hb.block D e3]; exact e1, e2, by have := hb.size; omega, by omega⟩
end
/-- behind some of the spans -/
def alI (w : World) (hi c7 c8 c9 c10 g c12 : Nat) (As Aw : Option Addr) (ns cs cw nn : Nat) (S : Sp.S) (Ds : List Nat) (rd : Nat) (pre : Sp.S) (W : World) : Prop := AI w hi c7 c8 c9 c10 g c12 As Aw ns cs cw nn S Ds rd pre.length W ∧ (rd = 0 → pre.length < nn)
/-- where the loop is left -/
def alX (w : World) (hi c7 c8 c9 c10 g c12 : Nat) (As Aw : Option Addr) (ns cs cw nn : Nat) (S : Sp.S) (Ds : List Nat) (rd : Nat) (c : Code) (pre : Sp.S) (W : World) : Prop := c = .exit 2 ∧ AI w hi c7 c8 c9 c10 g c12 As Aw ns cs cw nn S Ds rd pre.length W ∧ rd = 0 ∧ pre.length = nn
set_option maxRecDepth 100000 in
set_option maxHeartbeats 16000000 in
theorem spanall_walk (A1 A2 : Option Addr) (n1 c1 n2 c2 : Nat) (us1 us2 : List Nat) (leave : Int) (w : World) (h1 : IsU w w.heap.size A1 n1 us1) (h2 : IsU w w.heap.size A2 n2 us2) (hlv : -9223372036854775808 ≤ leave ∧ leave ≤ 9223372036854775807) :
    Calls Try.prog 3 #[.slice A1 n1 c1, .slice A2 n2 c2, .int .i64 leave] w fun e w' => e = .returned (.bool true) ∧ Below w.heap.size w w' := by
  have hi1 : (Try.prog.info? 28).map (fun i => (i.zero, i.size, i.bytes)) = some (some (.int .u64 0), 1, 8) := by kernel_rfl
  obtain ⟨i0, hi0, hz1, hz2, hz3⟩ := info_parts hi1
  have HI := Lib.hid hi0; have HZ1 := Lib.hid hz1; have HZ2 := Lib.hid hz2; have HZ3 := Lib.hid hz3
  have H1 := Lib.hid h1; have H2 := Lib.hid h2
  have m1 := h1.2.2.1
  have m2 := h2.2.2.1
  clear hi1 hi0 hz1 hz2 hz3 h1 h2
  refine (callsIn_wide (n := 3)).1 ?_
  refine callsIn_of_wp_marks Try.func3 rfl trivial ?_ rfl
  simp only [Try.ntmps3, List.size_toArray, List.length_cons, List.length_nil, Nat.reduceAdd, Nat.reduceSub, Array.replicate_succ, Array.replicate_zero, List.push_toArray, List.append_toArray, List.nil_append, List.cons_append]
  refine wpIn_wide.2 ?_
  go_upto_region 1 with fail
  have hra := Row.new w 4 [.bool false]
  have hba : Below w.heap.size w (w.alloc (.cells #[.bool false] 4)) := (Below.refl _ _).alloc (Nat.le_refl _) _
  generalize w.alloc (.cells #[.bool false] 4) = wa at *
  have HRa := Lib.hid hra; have HBa := Lib.hid hba
  clear hra hba
  obtain ⟨B, hB⟩ : ∃ B, B = beyondL 2147483647 [n1, n2] := ⟨_, rfl⟩
  have hcb := beyond_any (some ⟨wa.heap.size, 0, none⟩) 2 2 [n1, n2] (wa.alloc (.cells #[.int .i64 (n1 : Nat), .int .i64 (n2 : Nat)] 3)) ((Row.new wa 3 [i64 n1, i64 n2]).reads 0 2 (by simp) (Row.new wa 3 [i64 n1, i64 n2]).lt) (by omega) (by intro x hx; simp at hx; omega)
  rw [← hB] at hcb
  have HCB := Lib.hid hcb
  have hbb : Below wa.heap.size wa (wa.alloc (.cells #[.int .i64 (n1 : Nat), .int .i64 (n2 : Nat)] 3)) := (Below.refl _ _).alloc (Nat.le_refl _) _
  have HRb := Lib.hid (HRa.out.below hbb HRa.out.lt)
  have HBb := Lib.hid (HBa.out.trans (hbb.mono HBa.out.size))
  have HBB := Lib.hid hB
  clear hcb hbb hB
  cases B with
  | true =>
    have z0 := HRb.out.cell 0
    have zf := HRb.out.frozen 0
    have zl := HRb.out.lt
    simp only [List.getElem?_cons_zero] at z0
    have HRz := Lib.hid (HRb.out.set_ 0 (.bool true))
    have HBz := Lib.hid (HBb.out.setCell (p := ⟨w.heap.size, 0, none⟩) (Nat.le_refl _) (.bool true))
    go_wp2_with (go_at_call 6; refine HCB.out.mono ?_; rintro e w1 ⟨rfl, rfl⟩)
    have hc5 := HRz.out.cell 0
    simp only [List.set_cons_zero, List.getElem?_cons_zero] at hc5
    refine ⟨.bool true, ?_, rfl, HBz.out⟩
    simp [results, Try.results3, go_sem, hc5]
  | false =>
    obtain ⟨k1, k2⟩ : n1 ≤ 2147483647 ∧ n2 ≤ 2147483647 := by
      have h := HBB.out.symm
      unfold beyondL at h
      split at h
      · cases h
      unfold beyondL at h
      split at h
      · cases h
      omega
    clear m1 m2
    go_upto_region 3 with (go_at_call 6; refine HCB.out.mono ?_; rintro e w1 ⟨rfl, rfl⟩)
    generalize wa.alloc (.cells #[.int .i64 (n1 : Nat), .int .i64 (n2 : Nat)] 3) = wb at *
    clear HRa HBa HCB HBB
    obtain ⟨LS, hLS⟩ : ∃ L : List Nat, L = [5, 7, 9, 9, 1099511627776, 2199023255552] ++ us1 := ⟨_, rfl⟩
    have hbc : Below wb.heap.size wb (wb.alloc (.cells #[.int .u64 5, .int .u64 7, .int .u64 9, .int .u64 9, .int .u64 1099511627776, .int .u64 2199023255552] 28)) := (Below.refl _ _).alloc (Nat.le_refl _) _
    have hown : (wb.alloc (.cells #[.int .u64 5, .int .u64 7, .int .u64 9, .int .u64 9, .int .u64 1099511627776, .int .u64 2199023255552] 28)).ownsRow wb.heap.size 28 1 (.slice (some ⟨wb.heap.size, 0, none⟩) 6 6) 6 [.int .u64 5, .int .u64 7, .int .u64 9, .int .u64 9, .int .u64 1099511627776, .int .u64 2199023255552] :=
      ⟨by simp, .inr ⟨wb.heap.size, 6, _, rfl, Nat.le_refl _, heap_alloc_new wb _, Nat.le_refl _, by unfold maxLen; omega, by simp, by simp⟩⟩
    have HOW := Lib.hid hown
    have HBc := Lib.hid hbc
    have HR1 : Hid (Reads (wb.alloc (.cells #[.int .u64 5, .int .u64 7, .int .u64 9, .int .u64 9, .int .u64 1099511627776, .int .u64 2199023255552] 28)) (wb.alloc (.cells #[.int .u64 5, .int .u64 7, .int .u64 9, .int .u64 9, .int .u64 1099511627776, .int .u64 2199023255552] 28)).heap.size 1 A1 n1 (us1.map fun x => .int .u64 (x : Nat))) := Lib.hid (((H1.out.below HBb.out).more HBb.out.size).below hbc |>.more hbc.size).1
    have HLS := Lib.hid hLS
    clear hown hbc hLS
    go_upto_region 4 with (first
      | (at_builtin; refine wpList_append_sl _ (by rfl) (.tmp 20) (.tmp 21) 22 rfl wb.heap.size 28 i0 _ 1 8 Try.underlying22 HI.out HZ1.out HZ2.out HZ3.out rfl (by omega) (.slice (some ⟨wb.heap.size, 0, none⟩) 6 6) 6 _ rfl HOW.out _ A1 n1 c1 _ rfl HR1.out (by intro u hu; obtain ⟨x, _, rfl⟩ := List.mem_map.1 hu; rfl) (by unfold maxLen; omega) (by omega) (by simp) ?_; intro Ar cr wr hownr hrd hgr hat; have HUR : Hid (IsU wr wr.heap.size Ar (6 + n1) LS) := Lib.hid (by rw [HLS.out]; refine ⟨by rw [List.map_append]; exact hrd, by have := H1.out.2.1; simp; omega, by omega, ?_⟩; intro x hx; rcases List.mem_append.1 hx with hx | hx; (simp at hx; omega); exact H1.out.2.2.2 x hx); have HBr : Hid (Below wb.heap.size wb wr) := Lib.hid (HBc.out.grown hgr (by simp) (fun k hk => by have := (HOW.out.lt k hk).1; omega)); have HCM := Lib.hid (many_any Ar (6 + n1) cr LS wr HUR.out (by omega)); clear hownr hrd hgr hat)
      | (go_at_call 7; refine HCM.out.mono ?_; rintro e wm ⟨As, ns, cs, S, rfl, ho, hf, hl, hb⟩; have HOS := Lib.hid ho; have HOF := Lib.hid hf; have HNS := Lib.hid hl; have HBm := Lib.hid (HBr.out.trans (hb.mono HBr.out.size)); clear ho hf hl hb))
    have hS5 : 0 < ns := by
      have h5 := HOF.out.pts 5 (by decide)
      rw [HLS.out] at h5
      have h6 : Sp.has (prs ([5, 7, 9, 9, 1099511627776, 2199023255552] ++ us1)) 5 = true := by
        show Sp.has ((cutN 5, cutN 7) :: prs (9 :: 9 :: 1099511627776 :: 2199023255552 :: us1)) 5 = true
        rw [Sp.has_cons, decide_eq_true (by decide)]
        rfl
      rw [h6] at h5
      rcases Nat.eq_zero_or_pos ns with h0 | h0
      · have hnil : S = [] := List.length_eq_zero_iff.1 (by rw [HOS.out.2, h0])
        rw [hnil] at h5
        cases h5
      · exact h0
    have hns : ns ≤ 2147483653 := by have := HNS.out; omega
    have HNR := Lib.hid HOF.out.nrm
    -- c7
    have hb7 : Below wm.heap.size wm (wm.alloc (.cells #[.slice As ns cs] 26)) := (Below.refl _ _).alloc (Nat.le_refl _) _
    have hr7 := Row.new wm 26 [.slice As ns cs]
    obtain ⟨c7, hc7⟩ : ∃ c, c = wm.heap.size := ⟨_, rfl⟩
    have HBx : Hid (Below wb.heap.size wb (wm.alloc (.cells #[.slice As ns cs] 26))) := Lib.hid (HBm.out.trans (hb7.mono HBm.out.size))
    have HSET : Hid (IsS (wm.alloc (.cells #[.slice As ns cs] 26)) c7 As ns S ∧ IsSet (wm.alloc (.cells #[.slice As ns cs] 26)) As ns cs S) := Lib.hid (by
      have hs := HOS.out.isSet HOF.out.nrm (by omega)
      rw [hc7]
      exact ⟨hs.1.below hb7, hs.below hb7⟩)
    generalize wm.alloc (.cells #[.slice As ns cs] 26) = w7 at *
    rw [← hc7] at hr7 ⊢
    have HR7 := Lib.hid hr7
    have HL7 : Hid (w.heap.size < c7) := Lib.hid (by rw [hc7]; have := HRb.out.lt; have := HBm.out.size; omega)
    have HRx := Lib.hid (HRb.out.below HBx.out HRb.out.lt)
    have HB7 := Lib.hid (HBb.out.trans (HBx.out.mono HBb.out.size))
    have HCS := Lib.hid (And.intro HSET.out.2.2.1 HSET.out.2.2.2.1)
    clear hb7 hr7 hc7 HOW HBc HR1 HUR HBr HCM HOS HOF HNS HBm HBx HLS HRb HBb H1
    have q7 := HR7.out.cell 0
    have q7l := HR7.out.lt
    simp only [List.getElem?_cons_zero] at q7
    -- want
    go_upto_region 5 with (go_at_call 8; refine (spans_any As ns cs S _ HSET.out.2).mono ?_; rintro e wk ⟨⟨Aw, cw, rfl, ho, hw1, hw2⟩, hb⟩; have HOW := Lib.hid ho; have HBk := Lib.hid hb; clear ho hw1 hw2 hb)
    have hb8 : Below wk.heap.size wk (wk.alloc (.cells #[.slice Aw ns cw] 24)) := (Below.refl _ _).alloc (Nat.le_refl _) _
    have hr8 := Row.new wk 24 [.slice Aw ns cw]
    obtain ⟨c8, hc8⟩ : ∃ c, c = wk.heap.size := ⟨_, rfl⟩
    have HBx : Hid (Below w7.heap.size w7 (wk.alloc (.cells #[.slice Aw ns cw] 24))) := Lib.hid (HBk.out.trans (hb8.mono HBk.out.size))
    have HWT : Hid (IsS (wk.alloc (.cells #[.slice Aw ns cw] 24)) c8 Aw ns S) := Lib.hid (by
      rw [hc8]
      exact (IsS.below ⟨Reads.of_own HOW.out.1, HOW.out.2, by omega⟩ hb8))
    generalize wk.alloc (.cells #[.slice Aw ns cw] 24) = w8 at *
    rw [← hc8] at hr8 ⊢
    have HR8 := Lib.hid hr8
    have HL8 : Hid (c7 < c8) := Lib.hid (by rw [hc8]; have := HR7.out.lt; have := HBk.out.size; omega)
    have HRx' := Lib.hid (HRx.out.below HBx.out HRx.out.lt)
    have HR7' := Lib.hid (HR7.out.below HBx.out HR7.out.lt)
    have HST' := Lib.hid (HSET.out.1.below (HBx.out.mono (Nat.le_of_lt HR7.out.lt)))
    have HB7' := Lib.hid (HB7.out.trans (HBx.out.mono HB7.out.size))
    clear hb8 hr8 hc8 HOW HBk HBx HRx HR7 HSET HB7 q7 q7l
    have q8 := HR8.out.cell 0
    have q8l := HR8.out.lt
    simp only [List.getElem?_cons_zero] at q8
    have e00 : ((ns : Int) == 0) = false := by simp; omega
    have HWI := Lib.hid (within1_any leave ns w8 hlv hS5 (by omega))
    go_upto_region 8 with (go_at_call 9; refine HWI.out.mono ?_; rintro e wx ⟨⟨nn, rfl, hn1, hn2⟩, rfl⟩)
    clear HWI
    have hb9 : Below w8.heap.size w8 (w8.alloc (.cells #[.int .i64 (nn : Nat)] 3)) := (Below.refl _ _).alloc (Nat.le_refl _) _
    have hr9 := Row.new w8 3 [.int .i64 (nn : Nat)]
    obtain ⟨c9, hc9⟩ : ∃ c, c = w8.heap.size := ⟨_, rfl⟩
    have HR8' := Lib.hid (HR8.out.below hb9 HR8.out.lt)
    have HL9 : Hid (c8 < c9) := Lib.hid (by rw [hc9]; exact HR8.out.lt)
    have HRx := Lib.hid (HRx'.out.below hb9 HRx'.out.lt)
    have HR7 := Lib.hid (HR7'.out.below hb9 HR7'.out.lt)
    have HST := Lib.hid (HST'.out.below (hb9.mono (Nat.le_of_lt HR7'.out.lt)))
    have HWT' := Lib.hid (HWT.out.below (hb9.mono (Nat.le_of_lt HR8.out.lt)))
    have HB8 := Lib.hid (HB7'.out.trans (hb9.mono HB7'.out.size))
    generalize w8.alloc (.cells #[.int .i64 (nn : Nat)] 3) = w9 at *
    rw [← hc9] at hr9 ⊢
    have HR9 := Lib.hid hr9
    clear hb9 hr9 hc9 HRx' HR7' HST' HB7' HR8 HWT q8 q8l e00
    go_upto_region 9 with fail
    have hb10 : Below w9.heap.size w9 (w9.alloc (.cells #[.int .i64 0] 3)) := (Below.refl _ _).alloc (Nat.le_refl _) _
    have hr10 := Row.new w9 3 [.int .i64 0]
    obtain ⟨c10, hc10⟩ : ∃ c, c = w9.heap.size := ⟨_, rfl⟩
    have HR9' := Lib.hid (HR9.out.below hb10 HR9.out.lt)
    have HL10 : Hid (c9 < c10) := Lib.hid (by rw [hc10]; exact HR9.out.lt)
    have HRx' := Lib.hid (HRx.out.below hb10 HRx.out.lt)
    have HR7' := Lib.hid (HR7.out.below hb10 HR7.out.lt)
    have HR8 := Lib.hid (HR8'.out.below hb10 HR8'.out.lt)
    have HST' := Lib.hid (HST.out.below (hb10.mono (Nat.le_of_lt HR7.out.lt)))
    have HWT := Lib.hid (HWT'.out.below (hb10.mono (Nat.le_of_lt HR8'.out.lt)))
    have HB9 := Lib.hid (HB8.out.trans (hb10.mono HB8.out.size))
    generalize w9.alloc (.cells #[.int .i64 0] 3) = w10 at *
    rw [← hc10] at hr10 ⊢
    have HR10 := Lib.hid hr10
    clear hb10 hr10 hc10 HRx HR7 HST HB8 HR8' HWT' HR9
    have q7 := HR7'.out.cell 0
    have q7l := HR7'.out.lt
    simp only [List.getElem?_cons_zero] at q7
    go_upto_region 10 with (go_at_call 10; refine (all_any As ns cs w10).mono ?_; rintro e w11 ⟨rfl, hw11⟩; have HW11 := Lib.hid hw11; clear hw11)
    have hw11 := HW11.out
    clear HW11
    have hb11 : Below w10.heap.size w10 w11 := by rw [hw11]; exact (Below.refl _ _).alloc (Nat.le_refl _) _
    have hrg : Row w11 w10.heap.size 26 [.slice As ns cs] := by rw [hw11]; exact Row.new w10 _ [.slice As ns cs]
    obtain ⟨g, hg⟩ : ∃ g, g = w10.heap.size := ⟨_, rfl⟩
    rw [← hg] at hrg ⊢
    have HRG := Lib.hid hrg
    have HLG : Hid (c10 < g) := Lib.hid (by rw [hg]; exact HR10.out.lt)
    have HRx := Lib.hid (HRx'.out.below hb11 HRx'.out.lt)
    have HR7 := Lib.hid (HR7'.out.below hb11 HR7'.out.lt)
    have HR8' := Lib.hid (HR8.out.below hb11 HR8.out.lt)
    have HR9 := Lib.hid (HR9'.out.below hb11 HR9'.out.lt)
    have HR10' := Lib.hid (HR10.out.below hb11 HR10.out.lt)
    have HST := Lib.hid (HST'.out.below (hb11.mono (Nat.le_of_lt HR7'.out.lt)))
    have HWT' := Lib.hid (HWT.out.below (hb11.mono (Nat.le_of_lt HR8.out.lt)))
    have HB10 := Lib.hid (HB9.out.trans (hb11.mono HB9.out.size))
    clear hb11 hw11 hrg hg HRx' HR7' HR8 HR9' HR10 HST' HWT HB9 q7 q7l
    unfold allF
    have hef : ∀ wx : World, (binOp .eql 32 (.func (.func 31) #[] #[.pointer (some ⟨g, 0, none⟩)]) .nilFunc).run Try.prog wx = .ok (.bool false) wx := fun wx => by kernel_rfl
    go_upto_block 0 with fail
    obtain ⟨c12, hc12⟩ : ∃ c, c = w11.heap.size := ⟨_, rfl⟩
    have hbn : Below w11.heap.size w11 (w11.alloc (.cells #[.int .i64 0] 3)) := (Below.refl _ _).alloc (Nat.le_refl _) _
    have hAI : AI w (w11.alloc (.cells #[.int .i64 0] 3)).heap.size c7 c8 c9 c10 g c12 As Aw ns cs cw nn S [] 0 0 (w11.alloc (.cells #[.int .i64 0] 3)) := by
      have hr12 := Row.new w11 3 [.int .i64 0]
      rw [← hc12] at hr12
      refine ⟨HB10.out.trans (hbn.mono HB10.out.size), HRx.out.below hbn HRx.out.lt, HR7.out.below hbn HR7.out.lt, HR8'.out.below hbn HR8'.out.lt, HR9.out.below hbn HR9.out.lt, HR10'.out.below hbn HR10'.out.lt, HRG.out.below hbn HRG.out.lt, hr12, HST.out.below (hbn.mono (Nat.le_of_lt HR7.out.lt)), HWT'.out.below (hbn.mono (Nat.le_of_lt HR8'.out.lt)), ⟨HL7.out, HL8.out, HL9.out, HL10.out, HLG.out, by rw [hc12]; exact HRG.out.lt, hr12.lt⟩, fun D hD => by cases hD⟩
    have HAI := Lib.hid hAI
    generalize w11.alloc (.cells #[.int .i64 0] 3) = w0 at *
    rw [← hc12]
    clear hAI hbn hc12 HB10 HRx HR7 HR8' HR9 HR10' HRG HST HWT' HL7 HL8 HL9 HL10 HLG hef
    have HN := Lib.hid (And.intro hn1 (And.intro hn2 (And.intro hS5 hns)))
    have HK2 := Lib.hid k2
    clear hn1 hn2 hS5 k1 k2 hlv
    go_wp2_with fail
    refine wp_loop_rounds 3 ?_
    -- round 0
    have e12 := HAI.out.r12.cell 0
    have l12 := HAI.out.r12.lt
    have e10 := HAI.out.r10.cell 0
    have f10 := HAI.out.r10.frozen 0
    have l10 := HAI.out.r10.lt
    simp only [List.getElem?_cons_zero] at e12 e10
    rw [rounds_succ]
    go_upto_block 2 with fail
    clear e12 l12 e10 f10 l10
    have hA0 := HAI.out.set10 0
    have hz0 : (w0.setCell ⟨c10, 0, none⟩ (.int .i64 ((0 : Nat) : Nat))).heap.size = w0.heap.size := by simp [World.setCell]
    rw [← hz0] at hA0
    have HA0 : Hid (AI w (w0.setCell ⟨c10, 0, none⟩ (.int .i64 0)).heap.size c7 c8 c9 c10 g c12 As Aw ns cs cw nn S [] 0 0 (w0.setCell ⟨c10, 0, none⟩ (.int .i64 0))) := Lib.hid hA0
    generalize w0.setCell ⟨c10, 0, none⟩ (.int .i64 0) = w0 at *
    clear hA0 hz0 HAI
    refine wp_midA (fun W => AI w w0.heap.size c7 c8 c9 c10 g c12 As Aw ns cs cw nn S [] 0 nn W ∧ W.heap[w0.heap.size]? = some (.deferred (some [])) ∧ w0.heap.size < W.heap.size) { target := .collected w0.heap.size, args := #[] } ?walk0 ?rest0
    case walk0 =>
      as_aux_lemma =>
      have hlo := HA0.out.lo
      have hst1 : ∀ ad, As = some ad → 0 < ns → ad.block < c7 := fun ad e h0 => IsS.lt HA0.out.st h0 ad e
      have hpos := HN.out.2.2.1
      go_wp2_with fail
      refine (wpIn_wide (n := 3)).1 ?_
      refine wpIn_rangeFunc_C (F := Fence.wide) (n := 3) (ps := #[42]) (gf := 31) (lb := #[.pointer (some ⟨g, 0, none⟩)]) rfl (by decide) ?hg trivial (enters_of Try.func31 (by kernel_rfl) rfl)
        (all_seq As g ns cs S (fun k => k = g ∨ ∃ ad, As = some ad ∧ k = ad.block) _ w0 HA0.out.rg ⟨HA0.out.st.more (by omega), fun ad e _ => .inr ⟨ad, e, rfl⟩⟩ (.inl rfl) (fun k hk => by
          rcases hk with hk | ⟨ad, e, hk⟩
          · omega
          · have := hst1 ad e hpos; omega)) (Below.refl _ _)
        (fun k hk => hk.elim) (fun k hk => by
          rcases hk with hk | ⟨ad, e, hk⟩
          · omega
          · have := hst1 ad e hpos; omega) (fun _ => rfl) (fun _ _ _ _ => trivial)
        (alI w w0.heap.size c7 c8 c9 c10 g c12 As Aw ns cs cw nn S [] 0) (alX w w0.heap.size c7 c8 c9 c10 g c12 As Aw ns cs cw nn S [] 0)
        (fun pre W W' h hc => ⟨h.1.chg hc (fun k hk => by
          rcases hk with hk | hk
          · exact hk.elim
          · omega), h.2⟩)
        (fun cd pre W W' h hc => ⟨h.1, h.2.1.chg hc (fun k hk => by
          rcases hk with hk | hk
          · exact hk.elim
          · omega), h.2.2⟩)
        ⟨HA0.out, fun _ => HN.out.1⟩
        (spA (w0.heap.size + 2) 42 13) (fun x a' => spA_ab (fun k hk h => by
          rcases h with h | h
          · exact h
          · omega)) ?assign ?body ?done ?stop
      case hg => rfl
      case assign =>
        intro l pre x W K hsz hi hpx hK
        obtain ⟨x0, x1⟩ := x
        unfold spE
        have HK := Lib.hid hK
        have HI := Lib.hid hi
        clear hK hi hpx
        simp only
        gi_wp2_with fail
        have hchg : ∀ Y : Nat → Prop, ChgP Y W (W.alloc (.cells #[.int .u64 (x0 : Nat), .int .u64 (x1 : Nat)] 35)) := fun Y => (ChgP.refl Y W).alloc _
        exact HK.out _ _ (hchg _) ⟨HI.out.1.chg (hchg (fun _ => False)) (fun _ h => h.elim), HI.out.2⟩ ⟨W.heap.size, by omega, Row.new W 35 _, rfl⟩
      case body =>
        rintro l pre ⟨x0, x1⟩ a' W hszW ⟨hI, hhf⟩ ⟨Bx, hBx, hxr, rfl⟩ hpx
        have hpl : pre.length < ns ∧ S[pre.length]? = some (x0, x1) := by
          rw [← hI.wt.2.1]
          obtain ⟨t, ht⟩ := hpx
          rw [← ht]
          refine ⟨by simp, ?_⟩
          rw [List.append_assoc, List.getElem?_append_right (Nat.le_refl _), Nat.sub_self]; rfl
        obtain ⟨hpn, hpx2⟩ := hpl
        obtain ⟨i, hi⟩ : ∃ i, i = pre.length := ⟨_, rfl⟩
        rw [← hi] at hI hhf hpn hpx2
        obtain ⟨bw, ow, hform⟩ := hI.wt.form
        obtain ⟨rfl, hbw, hcell⟩ := hform.out (by omega)
        obtain ⟨t0, t1⟩ := hcell i _ hpx2
        have hlw := hI.r8.lt
        have tl : bw < W.heap.size := by omega
        have z0 := hxr.cell 0
        have z1 := hxr.cell 1
        have zl := hxr.lt
        have e12 := hI.r12.cell 0
        have l12 := hI.r12.lt
        have e10 := hI.r10.cell 0
        have l10 := hI.r10.lt
        have e8 := hI.r8.cell 0
        have e9 := hI.r9.cell 0
        have l9 := hI.r9.lt
        simp only [List.getElem?_cons_zero, List.getElem?_cons_succ] at z0 z1 e12 e10 e8 e9 t0 t1
        have i1 : (0 : Int) ≤ (i : Int) := by omega
        have i2 : (i : Int) < (ns : Int) := by omega
        have i3 : ¬ (ns : Int) ≤ (i : Int) := by omega
        have i4 : decide (ns ≤ i) = false := by simp; omega
        have hne := fun wx => neqS wx x0 x1
        have HH := Lib.hid (And.intro hI hhf)
        have HXI := Lib.hid hi
        have HI2 := Lib.hid i2
        have HKQ : Hid (¬ upTo (fun k => k = g ∨ ∃ ad, As = some ad ∧ k = ad.block) w0.heap.size (0 + 2) c10) := Lib.hid (fun h => by
          rcases h with (h | ⟨ad, e, h⟩) | h
          · omega
          · have := hst1 ad e hpos; omega
          · omega)
        clear hI hhf hxr hi hpx hpx2 hform hcell
        simp only [List.setIfInBounds_toArray, List.set_cons_succ, List.set_cons_zero]
        gi_wp2_with fail
        refine wpIn_region_quietRA rfl (by kernel_rfl) (by kernel_rfl) ?_
        repeat (gi_big_quiet_step (fail))
        refine wpQuietIn_nil ?_
        intro _ hw'
        obtain ⟨nq, rfl⟩ := hw'
        have HWD : Hid (AI w w0.heap.size c7 c8 c9 c10 g c12 As (some ⟨bw, ow, none⟩) ns cs cw nn S [] 0 i (W.drewN nq)) := Lib.hid (HH.out.1.chg ((ChgP.refl (fun _ => False) W).drewN nq) (fun k hk => hk.elim))
        have HKP : Hid (KpC (upTo (fun k => k = g ∨ ∃ ad, As = some ad ∧ k = ad.block) w0.heap.size (0 + 2)) W ((W.drewN nq).setCell ⟨c10, 0, none⟩ (.int .i64 ((i + 1 : Nat) : Nat)))) := Lib.hid (ChgP.set_ ((ChgP.refl _ W).drewN nq) (p := ⟨c10, 0, none⟩) (.inl HKQ.out) _)
        have HS := Lib.hid (HWD.out.set10 (i + 1))
        clear t0 t1 tl hlw z0 z1 zl e12 l12 e10 l10 e8 e9 l9 i1 i2 i3 i4 hne
        have e10 := HWD.out.r10.cell 0
        have f10 := HWD.out.r10.frozen 0
        have l10 := HWD.out.r10.lt
        simp only [List.getElem?_cons_zero] at e10
        clear HWD
        have ew : IntKind.i64.wrap ((i : Int) + 1) = (i : Int) + 1 := by rw [IntKind.wrap_i64]; have := HI2.out; have := HN.out.2.2.2; omega
        gi_upto_region 21 with fail
        rw [show ((i : Int) + 1) = ((i + 1 : Nat) : Int) by omega]
        generalize (W.drewN nq).setCell ⟨c10, 0, none⟩ (.int .i64 ((i + 1 : Nat) : Nat)) = W2 at *
        clear e10 f10 l10 ew
        have e12 := HS.out.r12.cell 0
        have l12 := HS.out.r12.lt
        have e10 := HS.out.r10.cell 0
        have l10 := HS.out.r10.lt
        have e9 := HS.out.r9.cell 0
        have l9 := HS.out.r9.lt
        simp only [List.getElem?_cons_zero] at e12 e10 e9
        by_cases hbk : i + 1 < nn
        · have j1 : (((i + 1 : Nat) : Int) == (nn : Int)) = false := by rw [beq_eq_false_iff_ne]; omega
          have j2 : ((i : Int) + 1 == (nn : Int)) = false := by rw [beq_eq_false_iff_ne]; omega
          have HF := Lib.hid (And.intro HKP.out (show alI w w0.heap.size c7 c8 c9 c10 g c12 As (some ⟨bw, ow, none⟩) ns cs cw nn S [] 0 (pre ++ [(x0, x1)]) W2 from ⟨by rw [List.length_append, ← HXI.out]; exact HS.out, fun _ => by rw [List.length_append, ← HXI.out]; exact hbk⟩))
          clear hbk
          gi_wp2_with fail
          exact HF.out
        · have hinn : i + 1 = nn := by have h := HH.out.2; have h2 : i < nn := (by first | exact h rfl | exact h trivial); omega
          have j1 : (((i + 1 : Nat) : Int) == (nn : Int)) = true := by rw [beq_iff_eq]; omega
          have j2 : ((i : Int) + 1 == (nn : Int)) = true := by rw [beq_iff_eq]; omega
          have HF := Lib.hid (And.intro HKP.out (show alX w w0.heap.size c7 c8 c9 c10 g c12 As (some ⟨bw, ow, none⟩) ns cs cw nn S [] 0 (.exit 2) (pre ++ [(x0, x1)]) W2 from ⟨rfl, by rw [List.length_append, ← HXI.out]; exact HS.out, rfl, by rw [List.length_append, ← HXI.out]; exact hinn⟩))
          clear hbk hinn
          gi_wp2_with fail
          exact HF.out
      case done =>
        rintro xs W rfl ⟨hI, hh⟩ hE hK
        have h1 := hh rfl
        have h2 := HN.out.2.1
        have h3 := hI.wt.2.1
        omega
      case stop =>
        rintro cd pre W _ ⟨rfl, hI, hr0, hl⟩ hE hK
        refine wpIn_wide.2 ?_
        go_wp2_with fail
        rw [hl] at hI
        have hlt := (Array.getElem?_eq_some_iff.1 hK).1
        first
          | exact ⟨hI, hK, hlt⟩
          | exact ⟨hI, hlt⟩
    case rest0 =>
    as_aux_lemma =>
    rintro W ⟨hI, hK, hsz⟩
    have HIW := Lib.hid hI; have HK0 := Lib.hid hK; have HSZ := Lib.hid hsz
    have e12 := hI.r12.cell 0
    have l12 := hI.r12.lt
    have e10 := hI.r10.cell 0
    have l10 := hI.r10.lt
    have e9 := hI.r9.cell 0
    have l9 := hI.r9.lt
    have e7 := hI.r7.cell 0
    have l7 := hI.r7.lt
    simp only [List.getElem?_cons_zero] at e12 e10 e9 e7
    have HG7 : Hid (∀ wx, Below W.heap.size W wx → wx.cell? ⟨c7, 0, none⟩ = some (.slice As ns cs)) := Lib.hid (fun wx hb => (HIW.out.r7.below hb HIW.out.r7.lt).cell 0)
    have HGS : Hid (∀ wx, Below W.heap.size W wx → IsSet wx As ns cs S ∧ IsU wx wx.heap.size A2 n2 us2) := Lib.hid (fun wx hb => ⟨⟨((HIW.out.st.more (Nat.le_of_lt HIW.out.r7.lt)).below hb).more hb.size, HCS.out.1, HCS.out.2, HNR.out, by have := HN.out.2.2.2; omega⟩, by
      have hbb := HIW.out.bel.trans (hb.mono HIW.out.bel.size)
      exact (H2.out.below hbb).more hbb.size⟩)
    clear hI hK hsz
    go_upto_region 24 with fail
    go_cut [74] from 71 to 74 (fun x wx => Hid (Below W.heap.size W wx))
    case first =>
      have HBD : Hid (Below W.heap.size W W.drew) := Lib.hid (Below.refl _ _).drew
      go_region_held3 (fun wx => wx.cell? ⟨c7, 0, none⟩ = some (.slice As ns cs))
        (first | exact HG7.out _ HBB.out | exact HG7.out _ HBA.out | exact HG7.out _ HBD.out | fail)
        (first
          | (have hq := HBA; clear hq; go_at_call 11; refine (or_any As Am ns cs nm cm S out _ (HGS.out _ HBA.out).1 (HOM.out.1.isSet HOM.out.2.1.nrm (by have := HOM.out.2.2; have := HK2.out; omega)) (by have := HOM.out.2.2; have := HK2.out; have := HN.out.2.2.2; omega)).mono ?_; rintro e wv ⟨Av, nv, cv, ov, rfl, hv1, hv2, hb⟩; have HBB : Hid (Below W.heap.size W wv) := Lib.hid (HBA.out.trans (hb.mono HBA.out.size)); clear hv1 hv2 hb)
          | (go_at_call 7; refine (many_any A2 n2 c2 us2 _ (HGS.out _ HBD.out).2 (by have := HK2.out; omega)).mono ?_; rintro e wu ⟨Am, nm, cm, out, rfl, ho, hf, hl, hb⟩; have HOM := Lib.hid (And.intro ho (And.intro hf hl)); have HBA : Hid (Below W.heap.size W wu) := Lib.hid (HBD.out.trans (hb.mono HBD.out.size)); clear ho hf hl hb)
          | fail)
      all_goals
        go_wp2_with fail
        go_meet
        case rel => exact HBB
    case rest =>
    have HB1 := hcut
    clear hcut e12 l12 e10 l10 e9 l9 e7 l7
    go_upto_region 25 with fail
    have HBD : Hid (Below W.heap.size W wc.drew) := Lib.hid HB1.out.drew
    have HPR : Hid (∀ wx : World, Calls Try.prog 13 #[.int .u64 0, .int .u64 9223372036854775808] wx fun e w' => e = .returned (.agg #[.int .u64 0, .int .u64 9223372036854775808]) ∧ Below wx.heap.size wx w') := Lib.hid (fun wx => pair_any 0 9223372036854775808 wx (by decide) (by decide))
    go_region_held3 (fun wx => wx.cell? ⟨c7, 0, none⟩ = some (.slice As ns cs))
      (first | exact HG7.out _ HB2.out | exact HG7.out _ HBA.out | exact HG7.out _ HBD.out | fail)
      (first
        | (have hq := HBA; clear hq; go_at_call 12; refine (without_any As ns cs 0 9223372036854775808 S _ (HGS.out _ HBA.out).1 (by decide) (by decide) (by have := HN.out.2.2.2; omega)).mono ?_; rintro e wv ⟨Av, nv, cv, ov, rfl, hv1, hv2, hb⟩; have HB2 : Hid (Below W.heap.size W wv) := Lib.hid (HBA.out.trans (hb.mono HBA.out.size)); clear hv1 hv2 hb)
        | (go_at_call 13; refine (HPR.out _).mono ?_; rintro e wu ⟨rfl, hb⟩; have HBA : Hid (Below W.heap.size W wu) := Lib.hid (HBD.out.trans (hb.mono HBD.out.size)); clear hb)
        | fail)
    have h12 := HIW.out.r12.below HB2.out HIW.out.r12.lt
    have e12 := h12.cell 0
    have l12 := h12.lt
    simp only [List.getElem?_cons_zero] at e12
    clear h12 HB1 HBD HPR HBA
    generalize wv = wc at *
    go_wp2_with fail
    obtain ⟨D0, hD0⟩ : ∃ D, D = w0.heap.size := ⟨_, rfl⟩
    obtain ⟨d12, hnx⟩ : ∃ c, c = wc.heap.size := ⟨_, rfl⟩
    have HAI : Hid (AI w (wc.alloc (.cells #[.int .i64 1] 3)).heap.size c7 c8 c9 c10 g d12 As Aw ns cs cw nn S [D0] 1 nn (wc.alloc (.cells #[.int .i64 1] 3))) := Lib.hid (by
      have hbx : Below W.heap.size W (wc.alloc (.cells #[.int .i64 1] 3)) := HB2.out.alloc HB2.out.size _
      have hr12 := Row.new wc 3 [.int .i64 1]
      rw [← hnx] at hr12
      refine HIW.out.fresh hbx (by have := HSZ.out; omega) hr12 (by rw [hnx]; exact HB2.out.size) (fun D hD => ?_)
      have hlo := HA0.out.lo
      rw [List.mem_singleton.1 hD, hD0]
      exact ⟨HK0.out, by omega⟩)
    generalize wc.alloc (.cells #[.int .i64 1] 3) = w0 at *
    rw [← hnx, ← hD0]
    clear hnx hD0 HIW HK0 HSZ HG7 HGS HB2 HA0 e12 l12
    -- round 1
    have e12 := HAI.out.r12.cell 0
    have l12 := HAI.out.r12.lt
    have e10 := HAI.out.r10.cell 0
    have f10 := HAI.out.r10.frozen 0
    have l10 := HAI.out.r10.lt
    simp only [List.getElem?_cons_zero] at e12 e10
    rw [rounds_succ]
    go_upto_block 2 with fail
    clear e12 l12 e10 f10 l10
    have hA0 := HAI.out.set10 0
    have hz0 : (w0.setCell ⟨c10, 0, none⟩ (.int .i64 ((0 : Nat) : Nat))).heap.size = w0.heap.size := by simp [World.setCell]
    rw [← hz0] at hA0
    have HA0 : Hid (AI w (w0.setCell ⟨c10, 0, none⟩ (.int .i64 0)).heap.size c7 c8 c9 c10 g d12 As Aw ns cs cw nn S [D0] 1 0 (w0.setCell ⟨c10, 0, none⟩ (.int .i64 0))) := Lib.hid hA0
    generalize w0.setCell ⟨c10, 0, none⟩ (.int .i64 0) = w0 at *
    clear hA0 hz0 HAI
    refine wp_midA (fun W => AI w w0.heap.size c7 c8 c9 c10 g d12 As Aw ns cs cw nn S [D0] 1 ns W ∧ W.heap[w0.heap.size]? = some (.deferred (some [])) ∧ w0.heap.size < W.heap.size) { target := .collected w0.heap.size, args := #[] } ?walk1 ?rest1
    case walk1 =>
      as_aux_lemma =>
      have hlo := HA0.out.lo
      have hst1 : ∀ ad, As = some ad → 0 < ns → ad.block < c7 := fun ad e h0 => IsS.lt HA0.out.st h0 ad e
      have hpos := HN.out.2.2.1
      go_wp2_with fail
      refine (wpIn_wide (n := 3)).1 ?_
      refine wpIn_rangeFunc_C (F := Fence.wide) (n := 3) (ps := #[42]) (gf := 31) (lb := #[.pointer (some ⟨g, 0, none⟩)]) rfl (by decide) ?hg trivial (enters_of Try.func31 (by kernel_rfl) rfl)
        (all_seq As g ns cs S (fun k => k = g ∨ ∃ ad, As = some ad ∧ k = ad.block) _ w0 HA0.out.rg ⟨HA0.out.st.more (by omega), fun ad e _ => .inr ⟨ad, e, rfl⟩⟩ (.inl rfl) (fun k hk => by
          rcases hk with hk | ⟨ad, e, hk⟩
          · omega
          · have := hst1 ad e hpos; omega)) (Below.refl _ _)
        (fun k hk => hk.elim) (fun k hk => by
          rcases hk with hk | ⟨ad, e, hk⟩
          · omega
          · have := hst1 ad e hpos; omega) (fun _ => rfl) (fun _ _ _ _ => trivial)
        (alI w w0.heap.size c7 c8 c9 c10 g d12 As Aw ns cs cw nn S [D0] 1) (alX w w0.heap.size c7 c8 c9 c10 g d12 As Aw ns cs cw nn S [D0] 1)
        (fun pre W W' h hc => ⟨h.1.chg hc (fun k hk => by
          rcases hk with hk | hk
          · exact hk.elim
          · omega), h.2⟩)
        (fun cd pre W W' h hc => ⟨h.1, h.2.1.chg hc (fun k hk => by
          rcases hk with hk | hk
          · exact hk.elim
          · omega), h.2.2⟩)
        ⟨HA0.out, fun _ => HN.out.1⟩
        (spA (w0.heap.size + 2) 42 13) (fun x a' => spA_ab (fun k hk h => by
          rcases h with h | h
          · exact h
          · omega)) ?assign ?body ?done ?stop
      case hg => rfl
      case assign =>
        intro l pre x W K hsz hi hpx hK
        obtain ⟨x0, x1⟩ := x
        unfold spE
        have HK := Lib.hid hK
        have HI := Lib.hid hi
        clear hK hi hpx
        simp only
        gi_wp2_with fail
        have hchg : ∀ Y : Nat → Prop, ChgP Y W (W.alloc (.cells #[.int .u64 (x0 : Nat), .int .u64 (x1 : Nat)] 35)) := fun Y => (ChgP.refl Y W).alloc _
        exact HK.out _ _ (hchg _) ⟨HI.out.1.chg (hchg (fun _ => False)) (fun _ h => h.elim), HI.out.2⟩ ⟨W.heap.size, by omega, Row.new W 35 _, rfl⟩
      case body =>
        rintro l pre ⟨x0, x1⟩ a' W hszW ⟨hI, hhf⟩ ⟨Bx, hBx, hxr, rfl⟩ hpx
        have hpl : pre.length < ns ∧ S[pre.length]? = some (x0, x1) := by
          rw [← hI.wt.2.1]
          obtain ⟨t, ht⟩ := hpx
          rw [← ht]
          refine ⟨by simp, ?_⟩
          rw [List.append_assoc, List.getElem?_append_right (Nat.le_refl _), Nat.sub_self]; rfl
        obtain ⟨hpn, hpx2⟩ := hpl
        obtain ⟨i, hi⟩ : ∃ i, i = pre.length := ⟨_, rfl⟩
        rw [← hi] at hI hhf hpn hpx2
        obtain ⟨bw, ow, hform⟩ := hI.wt.form
        obtain ⟨rfl, hbw, hcell⟩ := hform.out (by omega)
        obtain ⟨t0, t1⟩ := hcell i _ hpx2
        have hlw := hI.r8.lt
        have tl : bw < W.heap.size := by omega
        have z0 := hxr.cell 0
        have z1 := hxr.cell 1
        have zl := hxr.lt
        have e12 := hI.r12.cell 0
        have l12 := hI.r12.lt
        have e10 := hI.r10.cell 0
        have l10 := hI.r10.lt
        have e8 := hI.r8.cell 0
        have e9 := hI.r9.cell 0
        have l9 := hI.r9.lt
        simp only [List.getElem?_cons_zero, List.getElem?_cons_succ] at z0 z1 e12 e10 e8 e9 t0 t1
        have i1 : (0 : Int) ≤ (i : Int) := by omega
        have i2 : (i : Int) < (ns : Int) := by omega
        have i3 : ¬ (ns : Int) ≤ (i : Int) := by omega
        have i4 : decide (ns ≤ i) = false := by simp; omega
        have hne := fun wx => neqS wx x0 x1
        have HH := Lib.hid (And.intro hI hhf)
        have HXI := Lib.hid hi
        have HI2 := Lib.hid i2
        have HKQ : Hid (¬ upTo (fun k => k = g ∨ ∃ ad, As = some ad ∧ k = ad.block) w0.heap.size (0 + 2) c10) := Lib.hid (fun h => by
          rcases h with (h | ⟨ad, e, h⟩) | h
          · omega
          · have := hst1 ad e hpos; omega
          · omega)
        clear hI hhf hxr hi hpx hpx2 hform hcell
        simp only [List.setIfInBounds_toArray, List.set_cons_succ, List.set_cons_zero]
        gi_wp2_with fail
        refine wpIn_region_quietRA rfl (by kernel_rfl) (by kernel_rfl) ?_
        repeat (gi_big_quiet_step (fail))
        refine wpQuietIn_nil ?_
        intro _ hw'
        obtain ⟨nq, rfl⟩ := hw'
        have HWD : Hid (AI w w0.heap.size c7 c8 c9 c10 g d12 As (some ⟨bw, ow, none⟩) ns cs cw nn S [D0] 1 i (W.drewN nq)) := Lib.hid (HH.out.1.chg ((ChgP.refl (fun _ => False) W).drewN nq) (fun k hk => hk.elim))
        have HKP : Hid (KpC (upTo (fun k => k = g ∨ ∃ ad, As = some ad ∧ k = ad.block) w0.heap.size (0 + 2)) W ((W.drewN nq).setCell ⟨c10, 0, none⟩ (.int .i64 ((i + 1 : Nat) : Nat)))) := Lib.hid (ChgP.set_ ((ChgP.refl _ W).drewN nq) (p := ⟨c10, 0, none⟩) (.inl HKQ.out) _)
        have HS := Lib.hid (HWD.out.set10 (i + 1))
        clear t0 t1 tl hlw z0 z1 zl e12 l12 e10 l10 e8 e9 l9 i1 i2 i3 i4 hne
        have e10 := HWD.out.r10.cell 0
        have f10 := HWD.out.r10.frozen 0
        have l10 := HWD.out.r10.lt
        simp only [List.getElem?_cons_zero] at e10
        clear HWD
        have ew : IntKind.i64.wrap ((i : Int) + 1) = (i : Int) + 1 := by rw [IntKind.wrap_i64]; have := HI2.out; have := HN.out.2.2.2; omega
        gi_upto_region 21 with fail
        rw [show ((i : Int) + 1) = ((i + 1 : Nat) : Int) by omega]
        generalize (W.drewN nq).setCell ⟨c10, 0, none⟩ (.int .i64 ((i + 1 : Nat) : Nat)) = W2 at *
        clear e10 f10 l10 ew
        have e12 := HS.out.r12.cell 0
        have l12 := HS.out.r12.lt
        have e10 := HS.out.r10.cell 0
        have l10 := HS.out.r10.lt
        have e9 := HS.out.r9.cell 0
        have l9 := HS.out.r9.lt
        simp only [List.getElem?_cons_zero] at e12 e10 e9
        have HF := Lib.hid (And.intro HKP.out (show alI w w0.heap.size c7 c8 c9 c10 g d12 As (some ⟨bw, ow, none⟩) ns cs cw nn S [D0] 1 (pre ++ [(x0, x1)]) W2 from ⟨by rw [List.length_append, ← HXI.out]; exact HS.out, fun h => absurd h (by decide)⟩))
        gi_wp2_with fail
        exact HF.out
      case done =>
        rintro xs W rfl ⟨hI, hh⟩ hE hK
        refine ⟨rfl, rfl, ?_, hK, (Array.getElem?_eq_some_iff.1 hK).1⟩
        have h3 := hI.wt.2.1
        rw [h3] at hI
        exact hI
      case stop =>
        rintro cd pre W _ ⟨_, _, hr0, _⟩ _ _
        exact absurd hr0 (by decide)
    case rest1 =>
    as_aux_lemma =>
    rintro W ⟨hI, hK, hsz⟩
    have HIW := Lib.hid hI; have HK1 := Lib.hid hK; have HSZ := Lib.hid hsz
    have e12 := hI.r12.cell 0
    have l12 := hI.r12.lt
    have e10 := hI.r10.cell 0
    have l10 := hI.r10.lt
    have e9 := hI.r9.cell 0
    have l9 := hI.r9.lt
    have e7 := hI.r7.cell 0
    have l7 := hI.r7.lt
    simp only [List.getElem?_cons_zero] at e12 e10 e9 e7
    have HG7 : Hid (∀ wx, Below W.heap.size W wx → wx.cell? ⟨c7, 0, none⟩ = some (.slice As ns cs)) := Lib.hid (fun wx hb => (HIW.out.r7.below hb HIW.out.r7.lt).cell 0)
    have HGS : Hid (∀ wx, Below W.heap.size W wx → IsSet wx As ns cs S ∧ IsU wx wx.heap.size A2 n2 us2) := Lib.hid (fun wx hb => ⟨⟨((HIW.out.st.more (Nat.le_of_lt HIW.out.r7.lt)).below hb).more hb.size, HCS.out.1, HCS.out.2, HNR.out, by have := HN.out.2.2.2; omega⟩, by
      have hbb := HIW.out.bel.trans (hb.mono HIW.out.bel.size)
      exact (H2.out.below hbb).more hbb.size⟩)
    clear hI hK hsz
    go_upto_region 24 with fail
    go_cut [74] from 71 to 74 (fun x wx => Hid (Below W.heap.size W wx))
    case first =>
      have HBD : Hid (Below W.heap.size W W.drew) := Lib.hid (Below.refl _ _).drew
      go_region_held3 (fun wx => wx.cell? ⟨c7, 0, none⟩ = some (.slice As ns cs))
        (first | exact HG7.out _ HBB.out | exact HG7.out _ HBA.out | exact HG7.out _ HBD.out | fail)
        (first
          | (have hq := HBA; clear hq; go_at_call 11; refine (or_any As Am ns cs nm cm S out _ (HGS.out _ HBA.out).1 (HOM.out.1.isSet HOM.out.2.1.nrm (by have := HOM.out.2.2; have := HK2.out; omega)) (by have := HOM.out.2.2; have := HK2.out; have := HN.out.2.2.2; omega)).mono ?_; rintro e wv ⟨Av, nv, cv, ov, rfl, hv1, hv2, hb⟩; have HBB : Hid (Below W.heap.size W wv) := Lib.hid (HBA.out.trans (hb.mono HBA.out.size)); clear hv1 hv2 hb)
          | (go_at_call 7; refine (many_any A2 n2 c2 us2 _ (HGS.out _ HBD.out).2 (by have := HK2.out; omega)).mono ?_; rintro e wu ⟨Am, nm, cm, out, rfl, ho, hf, hl, hb⟩; have HOM := Lib.hid (And.intro ho (And.intro hf hl)); have HBA : Hid (Below W.heap.size W wu) := Lib.hid (HBD.out.trans (hb.mono HBD.out.size)); clear ho hf hl hb)
          | fail)
      all_goals
        go_wp2_with fail
        go_meet
        case rel => exact HBB
    case rest =>
    have HB1 := hcut
    clear hcut e12 l12 e10 l10 e9 l9 e7 l7
    go_upto_region 25 with fail
    have HBD : Hid (Below W.heap.size W wc.drew) := Lib.hid HB1.out.drew
    have HPR : Hid (∀ wx : World, Calls Try.prog 13 #[.int .u64 0, .int .u64 9223372036854775808] wx fun e w' => e = .returned (.agg #[.int .u64 0, .int .u64 9223372036854775808]) ∧ Below wx.heap.size wx w') := Lib.hid (fun wx => pair_any 0 9223372036854775808 wx (by decide) (by decide))
    go_region_held3 (fun wx => wx.cell? ⟨c7, 0, none⟩ = some (.slice As ns cs))
      (first | exact HG7.out _ HB2.out | exact HG7.out _ HBA.out | exact HG7.out _ HBD.out | fail)
      (first
        | (have hq := HBA; clear hq; go_at_call 12; refine (without_any As ns cs 0 9223372036854775808 S _ (HGS.out _ HBA.out).1 (by decide) (by decide) (by have := HN.out.2.2.2; omega)).mono ?_; rintro e wv ⟨Av, nv, cv, ov, rfl, hv1, hv2, hb⟩; have HB2 : Hid (Below W.heap.size W wv) := Lib.hid (HBA.out.trans (hb.mono HBA.out.size)); clear hv1 hv2 hb)
        | (go_at_call 13; refine (HPR.out _).mono ?_; rintro e wu ⟨rfl, hb⟩; have HBA : Hid (Below W.heap.size W wu) := Lib.hid (HBD.out.trans (hb.mono HBD.out.size)); clear hb)
        | fail)
    have h12 := HIW.out.r12.below HB2.out HIW.out.r12.lt
    have e12 := h12.cell 0
    have l12 := h12.lt
    simp only [List.getElem?_cons_zero] at e12
    clear h12 HB1 HBD HPR HBA
    generalize wv = wc at *
    go_wp2_with fail
    obtain ⟨D1, hD1⟩ : ∃ D, D = w0.heap.size := ⟨_, rfl⟩
    obtain ⟨k12, hnx⟩ : ∃ c, c = wc.heap.size := ⟨_, rfl⟩
    have HAI : Hid (AI w (wc.alloc (.cells #[.int .i64 2] 3)).heap.size c7 c8 c9 c10 g k12 As Aw ns cs cw nn S [D1, D0] 2 ns (wc.alloc (.cells #[.int .i64 2] 3))) := Lib.hid (by
      have hbx : Below W.heap.size W (wc.alloc (.cells #[.int .i64 2] 3)) := HB2.out.alloc HB2.out.size _
      have hr12 := Row.new wc 3 [.int .i64 2]
      rw [← hnx] at hr12
      refine HIW.out.fresh hbx (by have := HSZ.out; omega) hr12 (by rw [hnx]; exact HB2.out.size) (fun D hD => ?_)
      have hlo := HA0.out.lo
      rcases List.mem_cons.1 hD with hD | hD
      · rw [hD, hD1]
        exact ⟨HK1.out, by omega⟩
      · obtain ⟨x1, x2, _, _⟩ := HIW.out.dk D hD
        exact ⟨x1, x2⟩)
    have HDL : Hid (D0 < D1) := Lib.hid (by
      have := (HA0.out.dk D0 (by simp)).2.2.1
      omega)
    generalize wc.alloc (.cells #[.int .i64 2] 3) = w0 at *
    rw [← hnx, ← hD1]
    clear hnx hD1 HIW HK1 HSZ HG7 HGS HB2 HA0 e12 l12
    have e12 := HAI.out.r12.cell 0
    have l12 := HAI.out.r12.lt
    simp only [List.getElem?_cons_zero] at e12
    rw [rounds_succ]
    go_upto_region 28 with fail
    have hnn : ((ns : Int) == (ns : Int)) = true := by simp
    have HFR : Hid (∀ wx, Below w0.heap.size w0 wx → (wx.cell? ⟨c10, 0, none⟩ = some (.int .i64 (ns : Nat)) ∧ wx.cell? ⟨c8, 0, none⟩ = some (.slice Aw ns cw) ∧ wx.cell? ⟨c7, 0, none⟩ = some (.slice As ns cs)) ∧ IsSet wx As ns cs S ∧ IsS wx wx.heap.size Aw ns S ∧ wx.cell? ⟨w.heap.size, 0, none⟩ = some (.bool false) ∧ wx.frozen? ⟨w.heap.size, 0, none⟩ = false ∧ w.heap.size < wx.heap.size) := Lib.hid (fun wx hb => by
      have h := HAI.out
      have h6 := h.r6.below hb h.r6.lt
      exact ⟨⟨(h.r10.below hb h.r10.lt).cell 0, (h.r8.below hb h.r8.lt).cell 0, (h.r7.below hb h.r7.lt).cell 0⟩, ⟨((h.st.more (Nat.le_of_lt h.r7.lt)).below hb).more hb.size, HCS.out.1, HCS.out.2, HNR.out, by have := HN.out.2.2.2; omega⟩, ((h.wt.more (Nat.le_of_lt h.r8.lt)).below hb).more hb.size, h6.cell 0, h6.frozen 0, h6.lt⟩)
    have HLO := Lib.hid HAI.out.lo
    have HST : Hid (∀ wx, Below w0.heap.size w0 wx → (wx.setCell ⟨w.heap.size, 0, none⟩ (.bool true)).cell? ⟨c10, 0, none⟩ = some (.int .i64 (ns : Nat)) ∧ (wx.setCell ⟨w.heap.size, 0, none⟩ (.bool true)).cell? ⟨c8, 0, none⟩ = some (.slice Aw ns cw) ∧ (wx.setCell ⟨w.heap.size, 0, none⟩ (.bool true)).cell? ⟨c7, 0, none⟩ = some (.slice As ns cs)) := Lib.hid (fun wx hb => by
      have h := HAI.out
      have hlo := h.lo
      exact ⟨((h.r10.below hb h.r10.lt).far (p := ⟨w.heap.size, 0, none⟩) (show c10 ≠ w.heap.size by omega) (.bool true)).cell 0, ((h.r8.below hb h.r8.lt).far (p := ⟨w.heap.size, 0, none⟩) (show c8 ≠ w.heap.size by omega) (.bool true)).cell 0, ((h.r7.below hb h.r7.lt).far (p := ⟨w.heap.size, 0, none⟩) (show c7 ≠ w.heap.size by omega) (.bool true)).cell 0⟩)
    have HEN : Hid (∀ wx, Below w0.heap.size w0 wx → (wx.setCell ⟨w.heap.size, 0, none⟩ (.bool true)).heap[D1]? = some (.deferred (some [])) ∧ (wx.setCell ⟨w.heap.size, 0, none⟩ (.bool true)).heap[D0]? = some (.deferred (some [])) ∧ Row (wx.setCell ⟨w.heap.size, 0, none⟩ (.bool true)) w.heap.size 4 [.bool true] ∧ Below w.heap.size w (wx.setCell ⟨w.heap.size, 0, none⟩ (.bool true)) ∧ w.heap.size < D0 ∧ D0 < D1) := Lib.hid (fun wx hb => by
      have h := HAI.out
      obtain ⟨x1, x2, _, _⟩ := h.dk D1 (by simp)
      obtain ⟨y1, y2, _, _⟩ := h.dk D0 (by simp)
      have hlo := h.lo
      have hcz : ChgP (fun k => k = w.heap.size) wx (wx.setCell ⟨w.heap.size, 0, none⟩ (.bool true)) := ChgP.set_ (Z := fun k => k = w.heap.size) (ChgP.refl _ wx) (p := ⟨w.heap.size, 0, none⟩) (.inl rfl) _
      have p1 := (hb.block D1 (Array.getElem?_eq_some_iff.1 x1).1).trans x1
      have p0 := (hb.block D0 (Array.getElem?_eq_some_iff.1 y1).1).trans y1
      exact ⟨by rw [hcz.block _ (Array.getElem?_eq_some_iff.1 p1).1 (fun e => by have e : D1 = w.heap.size := e; omega)]; exact p1, by rw [hcz.block _ (Array.getElem?_eq_some_iff.1 p0).1 (fun e => by have e : D0 = w.heap.size := e; omega)]; exact p0, (h.r6.below hb h.r6.lt).set_ 0 _, (h.bel.trans (hb.mono h.bel.size)).setCell (p := ⟨w.heap.size, 0, none⟩) (Nat.le_refl _) _, by omega, HDL.out⟩)
    have HBD : Hid (Below w0.heap.size w0 w0.drew) := Lib.hid (Below.refl _ _).drew
    clear e12 l12
    go_region_held3 (fun wx => wx.cell? ⟨c10, 0, none⟩ = some (.int .i64 (ns : Nat)) ∧ wx.cell? ⟨c8, 0, none⟩ = some (.slice Aw ns cw) ∧ wx.cell? ⟨c7, 0, none⟩ = some (.slice As ns cs))
      (first | exact (HFR.out _ HBD.out).1 | exact (HFR.out _ HBA.out).1 | exact (HFR.out _ HBE.out).1 | exact HST.out _ HBE.out | fail)
      (first
        | (have hq := HBA; clear hq; rw [if_pos (by kernel_rfl)]; go_simp; go_at_call 14; refine (sameS_yes Az Aw ns cz cw S _ HZS.out (HFR.out _ HBA.out).2.2.1).mono ?_; rintro e wy ⟨rfl, nq, hwy⟩; have HBE : Hid (Below w0.heap.size w0 wy) := Lib.hid (HBA.out.trans ((by rw [hwy]; exact below_drewN (Below.refl _ _) nq : Below wv.heap.size wv wy).mono HBA.out.size)); obtain ⟨_, _, _, x0, x1, x2⟩ := HFR.out _ HBE.out; clear hwy; try go_wp2_with fail)
        | (rw [if_pos (by kernel_rfl)]; go_simp; go_at_call 8; refine (spans_any As ns cs S _ (HFR.out _ HBD.out).2.1).mono ?_; rintro e wv ⟨⟨Az, cz, rfl, ho, hz1, hz2⟩, hb⟩; have HZS : Hid (IsS wv wv.heap.size Az ns S) := Lib.hid ⟨Reads.of_own ho.1, ho.2, by have := HN.out.2.2.2; omega⟩; have HBA : Hid (Below w0.heap.size w0 wv) := Lib.hid (HBD.out.trans (hb.mono HBD.out.size)); clear ho hz1 hz2 hb; try go_wp2_with fail)
        | fail)
    all_goals
      obtain ⟨hk1, hk0, hr, hbz, hl1, hl2⟩ := HEN.out _ HBE.out
      have HK1 := Lib.hid hk1; have HK0 := Lib.hid hk0; have HRZ := Lib.hid hr; have HBZ := Lib.hid hbz
      clear hk1 hk0 hr hbz x0 x1 x2
      go_wp2_with fail
      generalize wy.setCell ⟨w.heap.size, 0, none⟩ (.bool true) = wz at *
      refine ⟨by simp, .inl ⟨_, _, rfl, run_takeDeferred HK1.out, ?_⟩⟩
      have hcy : ChgP (fun k => k = D1) wz (wz.putObj D1 (.deferred none)) := chgP_put wz D1 _ rfl
      have hKy : (wz.putObj D1 (.deferred none)).heap[D0]? = some (.deferred (some [])) := by
        rw [hcy.block _ (Array.getElem?_eq_some_iff.1 HK0.out).1 (fun h => by have h : D0 = D1 := h; omega)]; exact HK0.out
      have hry := hcy.row HRZ.out (fun h => by have h : w.heap.size = D1 := h; omega)
      have hby : Below w.heap.size w (wz.putObj D1 (.deferred none)) := HBZ.out.trans (hcy.below HBZ.out.size (fun k hk => by have hk : k = D1 := hk; omega))
      generalize wz.putObj D1 (.deferred none) = wt at *
      have hcx : ChgP (fun k => k = D0) wt (wt.putObj D0 (.deferred none)) := chgP_put wt D0 _ rfl
      have hc5 := (hcx.row hry (fun h => by have h : w.heap.size = D0 := h; omega)).cell 0
      have hbx : Below w.heap.size w (wt.putObj D0 (.deferred none)) := hby.trans (hcx.below hby.size (fun k hk => by have hk : k = D0 := hk; omega))
      simp only [List.getElem?_cons_zero] at hc5
      refine ⟨by simp, .inl ⟨_, _, rfl, run_takeDeferred hKy, ?_⟩⟩
      generalize wt.putObj D0 (.deferred none) = wx at *
      refine ⟨.bool true, ?_, rfl, hbx⟩
      simp [results, Try.results3, go_sem, hc5]
end Go.Proofs.Ytchajbegjajlkaa
