/- The walk of the law BusMade. -/
import Derived.Test.YtmhkmemaneopeaaBusM
import Derived.Test.YtmhkmemaneopeaaBusS
set_option linter.unusedVariables false
set_option linter.unusedSimpArgs false
namespace Go.Proofs.Ytmhkmemaneopeaa
open Go.RowKit
open S64
namespace Bu
theorem lensR (w : World) (a b : Nat) : Reads (w.alloc (.cells #[.int .i64 (a : Nat), .int .i64 (b : Nat)] 3)) (w.alloc (.cells #[.int .i64 (a : Nat), .int .i64 (b : Nat)] 3)).heap.size 1 (some ⟨w.heap.size, 0, none⟩) 2 ([a, b].map i64) :=
  (Row.new w 3 [i64 a, i64 b]).reads 0 2 (by simp) (Row.new w 3 [i64 a, i64 b]).lt
theorem beyondR (w : World) (a b : Nat) (ha : a ≤ 9223372036854775807) (hb : b ≤ 9223372036854775807) :
    Calls Try.prog 8 #[.slice (some ⟨w.heap.size, 0, none⟩) 2 2] (w.alloc (.cells #[.int .i64 (a : Nat), .int .i64 (b : Nat)] 3)) fun e w' => e = .returned (.bool (beyondL 2147483647 [a, b])) ∧ w.alloc (.cells #[.int .i64 (a : Nat), .int .i64 (b : Nat)] 3) = w' := by
  refine beyond_any _ _ _ [a, b] _ (lensR w a b) (by omega) ?_
  intro x hx
  simp at hx
  omega
theorem beyondR_no {a b : Nat} (h : beyondL 2147483647 [a, b] = false) : a ≤ 2147483647 ∧ b ≤ 2147483647 := by
  unfold beyondL at h
  split at h
  · cases h
  unfold beyondL at h
  split at h
  · cases h
  omega
set_option maxRecDepth 100000 in
set_option maxHeartbeats 1000000 in
theorem samef_any (y q : Nat) (w : World) :
    Calls Try.prog 18 #[.agg #[.int .i64 (y : Nat), .int .u64 (q : Nat)], .agg #[.int .i64 (y : Nat), .int .u64 (q : Nat)]] w fun e w' => e = .returned (.bool true) ∧ Below w.heap.size w w' := by
  have e1 : ((y : Int) == (y : Int)) = true := by simp
  have e2 : ((q : Int) == (q : Int)) = true := by simp
  go_enter Try.func18, Try.ntmps18
  go_upto_region 1 with fail
  have r0 : Row ((w.alloc (.cells #[.int .i64 (y : Nat), .int .u64 (q : Nat)] 42)).alloc (.cells #[.int .i64 (y : Nat), .int .u64 (q : Nat)] 46)) w.heap.size 42 [.int .i64 (y : Nat), .int .u64 (q : Nat)] := (Row.new w _ [.int .i64 (y : Nat), .int .u64 (q : Nat)]).alloc _
  have r1 : Row ((w.alloc (.cells #[.int .i64 (y : Nat), .int .u64 (q : Nat)] 42)).alloc (.cells #[.int .i64 (y : Nat), .int .u64 (q : Nat)] 46)) (w.heap.size + 1) 46 [.int .i64 (y : Nat), .int .u64 (q : Nat)] := by
    have h := Row.new (w.alloc (.cells #[.int .i64 (y : Nat), .int .u64 (q : Nat)] 42)) 46 [.int .i64 (y : Nat), .int .u64 (q : Nat)]
    rw [sz_alloc] at h
    exact h
  have hb0 : Below w.heap.size w ((w.alloc (.cells #[.int .i64 (y : Nat), .int .u64 (q : Nat)] 42)).alloc (.cells #[.int .i64 (y : Nat), .int .u64 (q : Nat)] 46)) := ((Below.refl _ _).alloc (Nat.le_refl _) _).alloc (by simp) _
  generalize (w.alloc (.cells #[.int .i64 (y : Nat), .int .u64 (q : Nat)] 42)).alloc (.cells #[.int .i64 (y : Nat), .int .u64 (q : Nat)] 46) = w1 at *
  have p0 := r0.cell 0
  have p1 := r0.cell 1
  have q0 := r1.cell 0
  have q1 := r1.cell 1
  have lp := r0.lt
  have lq := r1.lt
  simp only [List.getElem?_cons_zero, List.getElem?_cons_succ] at p0 p1 q0 q1
  have HB0 := Lib.hid hb0
  clear r0 r1 hb0
  go_wp2_with fail
  go_ret
  exact ⟨by first | rfl | trivial, HB0.out⟩
theorem spot_form (s : Option (Nat × Nat × Nat)) : ∃ k i o : Nat, spotV s = .agg #[.int .i64 (k : Nat), .int .i64 (i : Nat), .int .u64 (o : Nat)] := by
  cases s with
  | none => exact ⟨0, 0, 0, rfl⟩
  | some x => exact ⟨x.1, x.2.1, x.2.2, rfl⟩
theorem spot_on (M : PM) (at_ : Nat) : (spotF M at_ 3).isSome = on (M.rams ++ M.devs) at_ := by
  cases h : (M.rams ++ M.devs).findIdx? (inR at_) with
  | some i =>
    rw [List.findIdx?_eq_some_iff_getElem] at h
    obtain ⟨hl, hp, hb⟩ := h
    have hf := where_found (M := M) (at_ := at_) (List.getElem?_eq_getElem hl) hp (fun j y hj hy => by
      have h1 := hb j hj
      obtain ⟨hl2, he⟩ := List.getElem?_eq_some_iff.1 hy
      rw [he] at h1
      simpa using h1)
    have ho : on (M.rams ++ M.devs) at_ = true := List.any_eq_true.2 ⟨_, List.getElem_mem hl, hp⟩
    rw [hf, ho]
    split <;> rfl
  | none =>
    rw [List.findIdx?_eq_none_iff] at h
    have hn : ∀ (j : Nat) (x : Nat × Nat), (M.rams ++ M.devs)[j]? = some x → inR at_ x = false := fun j x hx => h x (List.mem_of_getElem? hx)
    rw [where_none hn, on_false hn]
    rfl
/-- one byte's place -/
def offOne (l : Sp.S) (a : Nat) : Option Nat := if on l a = true then none else some a
theorem offOne_is {l : Sp.S} {a : Nat} (ha : a ≤ TOP) : OffIs l a 1 (offOne l a) := by
  unfold offOne
  split
  · rename_i h
    intro p h1 h2
    obtain rfl : p = a := by omega
    exact h
  · rename_i h
    exact ⟨Nat.le_refl _, by omega, by simpa using h, ha, fun p h1 h2 => by omega⟩
theorem fault_form (l : Sp.S) (a : Nat) : ∃ y q : Nat, faultV (offOne l a) = .agg #[.int .i64 (y : Nat), .int .u64 (q : Nat)] ∧ ((y : Int) == 0) = on l a := by
  unfold offOne
  cases h : on l a with
  | true => exact ⟨0, 0, rfl, rfl⟩
  | false => exact ⟨30, a, rfl, rfl⟩
theorem smallOk : newE [(8192, 4096)] [] = 0 := by decide
set_option maxRecDepth 100000 in
set_option maxHeartbeats 4000000 in
theorem busmade_walk (A1 A2 : Option Addr) (n1 n2 c1 c2 at_ : Nat) (rams devs : Sp.S) (w : World) (h1 : IsS w w.heap.size A1 n1 rams) (h2 : IsS w w.heap.size A2 n2 devs) (ht : ∀ x ∈ rams ++ devs, x.1 ≤ TOP ∧ x.2 ≤ TOP) (ha : at_ ≤ TOP) :
    Calls Try.prog 3 #[.agg #[.slice A1 n1 c1, .slice A2 n2 c2], .int .u64 (at_ : Nat)] w fun e w' => e = .returned (.bool true) ∧ Below w.heap.size w w' := by
  have H1 := Lib.hid h1; have H2 := Lib.hid h2; have HT := Lib.hid ht; have HA := Lib.hid ha
  clear h1 h2 ht ha
  go_enter Try.func3, Try.ntmps3
  go_upto_region 1 with fail
  have r0 : Row (w.alloc (.cells #[.slice A1 n1 c1, .slice A2 n2 c2] 24)) w.heap.size 24 [.slice A1 n1 c1, .slice A2 n2 c2] := Row.new w _ [.slice A1 n1 c1, .slice A2 n2 c2]
  have hb0 : Below w.heap.size w (w.alloc (.cells #[.slice A1 n1 c1, .slice A2 n2 c2] 24)) := (Below.refl _ _).alloc (Nat.le_refl _) _
  obtain ⟨c0, hc0⟩ : ∃ c0, c0 = w.heap.size := ⟨_, rfl⟩
  generalize w.alloc (.cells #[.slice A1 n1 c1, .slice A2 n2 c2] 24) = w1 at *
  rw [← hc0] at r0 ⊢
  clear hc0
  have HR0 := Lib.hid r0; have HB0 := Lib.hid hb0
  have p0 := r0.cell 0
  have p1 := r0.cell 1
  have lp := r0.lt
  simp only [List.getElem?_cons_zero, List.getElem?_cons_succ] at p0 p1
  clear r0 hb0
  go_wp2_with fail
  refine (beyondR w1 n1 n2 H1.out.2.2 H2.out.2.2).mono ?_
  rintro e w2 ⟨rfl, hw2⟩
  have hb12 : Below w1.heap.size w1 w2 := by rw [← hw2]; exact (Below.refl _ _).alloc (Nat.le_refl _) _
  have HR2 := Lib.hid (HR0.out.below hb12 HR0.out.lt)
  have HB2 := Lib.hid (HB0.out.trans (hb12.mono HB0.out.size))
  clear hw2 hb12 p0 p1 lp HR0 HB0
  cases hbe : beyondL 2147483647 [n1, n2] with
  | true =>
    go_wp2_with fail
    go_ret
    exact ⟨by first | rfl | trivial, HB2.out⟩
  | false =>
  have hb1 := (beyondR_no hbe).1
  have hb2 := (beyondR_no hbe).2
  clear hbe
  go_upto_region 3 with fail
  have HSM : Hid (∀ wx (b : Nat), Row wx b 31 [.int .u64 8192, .int .u64 4096] → Calls Try.prog 9 #[.agg #[.slice (some ⟨b, 0, none⟩) 1 1, .slice none 0 0]] wx (MadeSaid wx [(8192, 4096)] [])) := Lib.hid (fun wx b hr => made_any _ _ 1 0 1 0 [(8192, 4096)] [] wx (isS_row (s := [(8192, 4096)]) hr rfl (by omega)) IsS.none_ (by decide) (by omega) (by omega))
  go_wp2_with fail
  have hrr : Row (w2.alloc (.cells #[.int .u64 8192, .int .u64 4096] 31)) w2.heap.size 31 [.int .u64 8192, .int .u64 4096] := Row.new w2 _ [.int .u64 8192, .int .u64 4096]
  refine (HSM.out _ _ hrr).mono ?_
  intro e w3 hms
  obtain ⟨hb23, h3 | ⟨_, gs, Zs, Rs, rfl, hms, hzs⟩⟩ := hms
  · exact absurd smallOk h3.1
  have HMS := Lib.hid hms
  have hb23' : Below w2.heap.size w2 w3 := ((Below.refl _ _).alloc (Nat.le_refl _) _).trans (hb23.mono (by simp))
  have HR3 := Lib.hid (HR2.out.below hb23' HR2.out.lt)
  have HB3 := Lib.hid (HB2.out.trans (hb23'.mono HB2.out.size))
  clear hms hzs hb23 hb23' hrr HR2 HB2 HSM
  go_wp2_with fail
  have HBM : Hid (Calls Try.prog 10 #[.pointer (some ⟨gs, 0, none⟩)] w3 (Twinned w3 1 0 [(8192, 4096)] [])) := Lib.hid (bus_m HMS.out (show 1 ≤ 1000000 by decide) (show 0 ≤ 1000000 by decide))
  refine HBM.out.mono ?_
  rintro e w4 ⟨B1, B2, d1, d2, rfl, ht4⟩
  have hb34 := ht4.bel
  have HMS4 := Lib.hid (HMS.out.below hb34)
  have HR4 := Lib.hid (HR3.out.below hb34 HR3.out.lt)
  have HB4 := Lib.hid (HB3.out.trans (hb34.mono HB3.out.size))
  clear ht4 hb34 HMS HR3 HB3 HBM
  have hfd : ∀ wx : World, (Instr.field 24 (.agg #[.slice B1 1 d1, .slice B2 0 d2]) 0).run Try.prog wx = .ok (.slice B1 1 d1) wx := fun _ => by kernel_rfl
  go_wp2_with fail
  refine (kept_m (ks := []) HMS4.out List.nodup_nil (fun k => ⟨fun h => (by cases h), fun ⟨i, _, hn⟩ => absurd rfl hn⟩)).mono ?_
  rintro e w' ⟨rfl, rfl⟩
  clear HMS4
  have p0 := HR4.out.cell 0
  have p1 := HR4.out.cell 1
  have lp := HR4.out.lt
  simp only [List.getElem?_cons_zero, List.getElem?_cons_succ] at p0 p1
  go_wp2_with fail
  refine (made_any A1 A2 n1 n2 c1 c2 rams devs w4 ((H1.out.below HB4.out).more HB4.out.size) ((H2.out.below HB4.out).more HB4.out.size) HT.out (by omega) (by omega)).mono ?_
  intro e w5 hmd
  obtain ⟨hb45, ⟨h0, rfl⟩ | ⟨h0, g, Z, R, rfl, hm, hzr⟩⟩ := hmd
  · have HB5 := Lib.hid (HB4.out.trans (hb45.mono HB4.out.size))
    clear p0 p1 lp h0
    go_wp2_with fail
    go_ret
    exact ⟨by first | rfl | trivial, HB5.out⟩
  have HM5 := Lib.hid hm
  have HZR := Lib.hid hzr
  have HR5 := Lib.hid (HR4.out.below hb45 HR4.out.lt)
  have HB5 := Lib.hid (HB4.out.trans (hb45.mono HB4.out.size))
  have HOK := Lib.hid (okay_of h0)
  have HZ5 : Hid (∀ k, Z k ∨ R k → w4.heap.size ≤ k ∧ k < w5.heap.size) := Lib.hid (fun k hk => ⟨hzr k hk, by rcases hk with hk | hk; exact hm.z k hk; exact hm.r k hk⟩)
  have HC0 : Hid (c0 < w4.heap.size ∧ w.heap.size ≤ w4.heap.size) := Lib.hid ⟨HR4.out.lt, HB4.out.size⟩
  clear hm hzr hb45 h0 p0 p1 lp HR4 HB4
  have p0 := HR5.out.cell 0
  have p1 := HR5.out.cell 1
  have lp := HR5.out.lt
  simp only [List.getElem?_cons_zero, List.getElem?_cons_succ] at p0 p1
  go_wp2_with fail
  refine (refnew_any A1 A2 n1 n2 c1 c2 rams devs w5 ((H1.out.below HB5.out).more HB5.out.size) ((H2.out.below HB5.out).more HB5.out.size) HOK.out).mono ?_
  rintro e w6 ⟨gv, rfl, hgv, hv6, hb56⟩
  have HM6 := Lib.hid (HM5.out.below hb56)
  have HV6 := Lib.hid hv6
  have HR6 := Lib.hid (HR5.out.below hb56 HR5.out.lt)
  have HB6 := Lib.hid (HB5.out.trans (hb56.mono HB5.out.size))
  have HGV : Hid (w5.heap.size ≤ gv ∧ w5.heap.size ≤ w6.heap.size) := Lib.hid ⟨hgv, hb56.size⟩
  clear p0 p1 lp HR5
  obtain ⟨M, hM⟩ : ∃ M : PM, M = ⟨rams, devs, fun _ => 0, 0, 0, 0⟩ := ⟨_, rfl⟩
  rw [← hM] at HM6 HV6
  have HMM : Hid (M.rams = rams ∧ M.devs = devs ∧ M.strays = 0 ∧ M.loads = 0) := Lib.hid (by rw [hM]; exact ⟨rfl, rfl, rfl, rfl⟩)
  clear hM HM5
  obtain ⟨k, i, o, hsv⟩ := spot_form (spotF M at_ 3)
  obtain ⟨sb, hsb⟩ : ∃ sb, sb = (spotF M at_ 3).isSome := ⟨_, rfl⟩
  obtain ⟨y, q, hfv, hyq⟩ := fault_form (M.rams ++ M.devs) at_
  rw [← spot_on, ← hsb] at hyq
  obtain ⟨v, hv⟩ : ∃ v, v = peekV M at_ 1 (offOne (M.rams ++ M.devs) at_) := ⟨_, rfl⟩
  have HW1 : Hid (∀ wx, MZ Z R wx g M → Calls Try.prog 13 #[.pointer (some ⟨g, 0, none⟩), .int .u64 (at_ : Nat)] wx fun e w' => e = .returned (.tuple #[.agg #[.int .i64 (k : Nat), .int .i64 (i : Nat), .int .u64 (o : Nat)], .bool sb]) ∧ Below wx.heap.size wx w') := Lib.hid (fun wx h => by
    have hh := where_m h HA.out
    unfold WhereSaid at hh
    rw [hsv, ← hsb] at hh
    exact hh)
  have HW2 : Hid (∀ wx, RMA wx w5.heap.size gv M A1 A2 none n1 n2 c1 c2 0 0 [] → Calls Try.prog 14 #[.pointer (some ⟨gv, 0, none⟩), .int .u64 (at_ : Nat)] wx fun e w' => e = .returned (.tuple #[.agg #[.int .i64 (k : Nat), .int .i64 (i : Nat), .int .u64 (o : Nat)], .bool sb]) ∧ Below wx.heap.size wx w') := Lib.hid (fun wx h => by
    have hh := refwhere_any h at_ HA.out
    unfold WhereSaid at hh
    rw [hsv, ← hsb] at hh
    exact hh)
  have HL1 : Hid (∀ wx, MZ Z R wx g M → Calls Try.prog 15 #[.pointer (some ⟨g, 0, none⟩), .int .u64 (at_ : Nat), .int .i64 1] wx fun e w' => e = .returned (.tuple #[.int .u64 (v : Nat), .agg #[.int .i64 (y : Nat), .int .u64 (q : Nat)]]) ∧ Quiet1 Z R wx g (loadM M (offOne (M.rams ++ M.devs) at_)) w') := Lib.hid (fun wx h => by
    have hh := load_m (n := 1) h (by omega) HA.out (by rw [HMM.out.2.2.1]; decide) (by rw [HMM.out.2.2.2]; decide) (offOne_is HA.out)
    rw [← hv, hfv] at hh
    exact hh)
  have HL2 : Hid (∀ wx, RMA wx w5.heap.size gv M A1 A2 none n1 n2 c1 c2 0 0 [] → Calls Try.prog 16 #[.pointer (some ⟨gv, 0, none⟩), .int .u64 (at_ : Nat), .int .i64 1] wx fun e w' => e = .returned (.tuple #[.int .u64 (v : Nat), .agg #[.int .i64 (y : Nat), .int .u64 (q : Nat)]]) ∧ RQ wx w5.heap.size gv (loadM M (offOne (M.rams ++ M.devs) at_)) A1 A2 none n1 n2 c1 c2 0 0 [] w') := Lib.hid (fun wx h => by
    have hh := refload_any h at_ 1 (by omega) HA.out (by rw [HMM.out.2.2.1]; decide) (by rw [HMM.out.2.2.2]; decide) (offOne_is HA.out)
    rw [← hv, hfv] at hh
    exact hh)
  have HYQ := Lib.hid hyq
  clear hsv hsb hfv hyq hv
  go_wp2_with fail
  refine (HW1.out w6 HM6.out).mono ?_
  rintro e w7 ⟨rfl, hb67⟩
  go_upto_region 11 with fail
  have hs9 : Row (w7.alloc (.cells #[.int .i64 (k : Nat), .int .i64 (i : Nat), .int .u64 (o : Nat)] 37)) w7.heap.size 37 [.int .i64 (k : Nat), .int .i64 (i : Nat), .int .u64 (o : Nat)] := Row.new w7 _ [.int .i64 (k : Nat), .int .i64 (i : Nat), .int .u64 (o : Nat)]
  have hb68 : Below w6.heap.size w6 (w7.alloc (.cells #[.int .i64 (k : Nat), .int .i64 (i : Nat), .int .u64 (o : Nat)] 37)) := hb67.alloc hb67.size _
  obtain ⟨c9, hc9⟩ : ∃ c, c = w7.heap.size := ⟨_, rfl⟩
  generalize w7.alloc (.cells #[.int .i64 (k : Nat), .int .i64 (i : Nat), .int .u64 (o : Nat)] 37) = w8 at *
  rw [← hc9] at hs9 ⊢
  have HM8 := Lib.hid (HM6.out.below hb68)
  have HV8 := Lib.hid (HV6.out.below hb68)
  have HR8 := Lib.hid (HR6.out.below hb68 HR6.out.lt)
  have HB8 := Lib.hid (HB6.out.trans (hb68.mono HB6.out.size))
  have HS9 := Lib.hid hs9
  have HC9 : Hid (w6.heap.size ≤ c9 ∧ w6.heap.size ≤ w8.heap.size) := Lib.hid ⟨by rw [hc9]; exact hb67.size, hb68.size⟩
  clear hc9 hs9 hb67 hb68 HM6 HV6 HR6 HB6
  go_wp2_with fail
  refine (HW2.out w8 HV8.out).mono ?_
  rintro e w9 ⟨rfl, hb89⟩
  go_upto_region 12 with fail
  have hs11 : Row (w9.alloc (.cells #[.int .i64 (k : Nat), .int .i64 (i : Nat), .int .u64 (o : Nat)] 37)) w9.heap.size 37 [.int .i64 (k : Nat), .int .i64 (i : Nat), .int .u64 (o : Nat)] := Row.new w9 _ [.int .i64 (k : Nat), .int .i64 (i : Nat), .int .u64 (o : Nat)]
  have hb8a : Below w8.heap.size w8 (w9.alloc (.cells #[.int .i64 (k : Nat), .int .i64 (i : Nat), .int .u64 (o : Nat)] 37)) := hb89.alloc hb89.size _
  obtain ⟨c11, hc11⟩ : ∃ c, c = w9.heap.size := ⟨_, rfl⟩
  generalize w9.alloc (.cells #[.int .i64 (k : Nat), .int .i64 (i : Nat), .int .u64 (o : Nat)] 37) = wa at *
  rw [← hc11] at hs11 ⊢
  have HMa := Lib.hid (HM8.out.below hb8a)
  have HVa := Lib.hid (HV8.out.below hb8a)
  have HRa := Lib.hid (HR8.out.below hb8a HR8.out.lt)
  have HBa := Lib.hid (HB8.out.trans (hb8a.mono HB8.out.size))
  have HS9a := Lib.hid (HS9.out.below hb8a HS9.out.lt)
  have HS11 := Lib.hid hs11
  have HC11 : Hid (w8.heap.size ≤ c11) := Lib.hid (by rw [hc11]; exact hb89.size)
  clear hc11 hs11 hb89 hb8a HM8 HV8 HR8 HB8 HS9
  go_wp2_with fail
  refine (HL1.out wa HMa.out).mono ?_
  rintro e wb ⟨rfl, hmb, hcb⟩
  obtain ⟨M', hM'⟩ : ∃ M', M' = loadM M (offOne (M.rams ++ M.devs) at_) := ⟨_, rfl⟩
  have HM' : Hid (M'.rams = rams ∧ M'.devs = devs) := Lib.hid (by
    rw [hM', ← HMM.out.1, ← HMM.out.2.1]
    cases offOne (M.rams ++ M.devs) at_ <;> exact ⟨rfl, rfl⟩)
  rw [← hM'] at hmb HL2
  have hnz : ∀ x, w5.heap.size ≤ x → ¬ Z x := fun x h1 h2 => by have := HZ5.out x (.inl h2); omega
  have hbb : Below w.heap.size w wb := HBa.out.trans (hcb.below HBa.out.size (fun x hx => Nat.le_trans HC0.out.2 (HZ5.out x (.inl hx)).1))
  have hrb : Row wb c0 24 [.slice A1 n1 c1, .slice A2 n2 c2] := hcb.row HRa.out (fun h => by have := HZ5.out c0 (.inl h); have := HC0.out.1; omega)
  have hvb : RMA wb w5.heap.size gv M A1 A2 none n1 n2 c1 c2 0 0 [] := ⟨hcb.row HVa.out.row (hnz _ HGV.out.1), HVa.out.gB, by rw [HMM.out.1]; exact (H1.out.below hbb).more HB5.out.size, by rw [HMM.out.2.1]; exact (H2.out.below hbb).more HB5.out.size, HVa.out.ok, World.ownsRow_nil _ _ _ _, rfl, (fun x hx => by cases hx), List.nodup_nil, List.nodup_nil, HVa.out.out, HVa.out.byte⟩
  have h9b : Row wb c9 37 [.int .i64 (k : Nat), .int .i64 (i : Nat), .int .u64 (o : Nat)] := hcb.row HS9a.out (hnz _ (by have := HC9.out.1; have := HGV.out.2; omega))
  have h11b : Row wb c11 37 [.int .i64 (k : Nat), .int .i64 (i : Nat), .int .u64 (o : Nat)] := hcb.row HS11.out (hnz _ (by have := HC11.out; have := HC9.out.2; have := HGV.out.2; omega))
  go_upto_region 13 with fail
  have hf14 : Row (wb.alloc (.cells #[.int .i64 (y : Nat), .int .u64 (q : Nat)] 42)) wb.heap.size 42 [.int .i64 (y : Nat), .int .u64 (q : Nat)] := Row.new wb _ [.int .i64 (y : Nat), .int .u64 (q : Nat)]
  have hal : Below wb.heap.size wb (wb.alloc (.cells #[.int .i64 (y : Nat), .int .u64 (q : Nat)] 42)) := (Below.refl _ _).alloc (Nat.le_refl _) _
  obtain ⟨c14, hc14⟩ : ∃ c, c = wb.heap.size := ⟨_, rfl⟩
  generalize wb.alloc (.cells #[.int .i64 (y : Nat), .int .u64 (q : Nat)] 42) = wc at *
  rw [← hc14] at hf14 ⊢
  have HMc := Lib.hid (hmb.below hal)
  have HVc := Lib.hid (hvb.below hal)
  have HRc := Lib.hid (hrb.below hal hrb.lt)
  have HBc := Lib.hid (hbb.trans (hal.mono hbb.size))
  have HS9c := Lib.hid (h9b.below hal h9b.lt)
  have HS11c := Lib.hid (h11b.below hal h11b.lt)
  have HF14 := Lib.hid hf14
  clear hc14 hf14 hal hmb hvb hrb hbb h9b h11b hcb hnz hM' HMa HVa HRa HBa HS9a HS11
  go_wp2_with fail
  refine (HL2.out wc HVc.out).mono ?_
  rintro e wd ⟨rfl, hqd⟩
  have hmd : MZ Z R wd g M' := HMc.out.chg hqd.c (fun x hx hq => by have := HZ5.out x hx; have := HGV.out.1; omega)
  have hrd : Row wd c0 24 [.slice A1 n1 c1, .slice A2 n2 c2] := hqd.c.row HRc.out (Row.ne_t HRc.out HVc.out.row (by decide))
  have h9d : Row wd c9 37 [.int .i64 (k : Nat), .int .i64 (i : Nat), .int .u64 (o : Nat)] := hqd.c.row HS9c.out (Row.ne_t HS9c.out HVc.out.row (by decide))
  have h11d : Row wd c11 37 [.int .i64 (k : Nat), .int .i64 (i : Nat), .int .u64 (o : Nat)] := hqd.c.row HS11c.out (Row.ne_t HS11c.out HVc.out.row (by decide))
  have h14d : Row wd c14 42 [.int .i64 (y : Nat), .int .u64 (q : Nat)] := hqd.c.row HF14.out (Row.ne_t HF14.out HVc.out.row (by decide))
  have hbd : Below w.heap.size w wd := HBc.out.trans (hqd.c.below HBc.out.size (fun x hx => by have h1 := HGV.out.1; have h2 := HB5.out.size; omega))
  go_upto_region 14 with fail
  have hf16 : Row (wd.alloc (.cells #[.int .i64 (y : Nat), .int .u64 (q : Nat)] 46)) wd.heap.size 46 [.int .i64 (y : Nat), .int .u64 (q : Nat)] := Row.new wd _ [.int .i64 (y : Nat), .int .u64 (q : Nat)]
  have hal : Below wd.heap.size wd (wd.alloc (.cells #[.int .i64 (y : Nat), .int .u64 (q : Nat)] 46)) := (Below.refl _ _).alloc (Nat.le_refl _) _
  obtain ⟨c16, hc16⟩ : ∃ c, c = wd.heap.size := ⟨_, rfl⟩
  generalize wd.alloc (.cells #[.int .i64 (y : Nat), .int .u64 (q : Nat)] 46) = we at *
  rw [← hc16] at hf16 ⊢
  have HMe := Lib.hid (hmd.below hal)
  have HBe := Lib.hid (hbd.trans (hal.mono hbd.size))
  have r0 := hrd.below hal hrd.lt
  have r9 := h9d.below hal h9d.lt
  have r11 := h11d.below hal h11d.lt
  have r14 := h14d.below hal h14d.lt
  have r16 := hf16
  have a0 := r0.cell 0
  have a1 := r0.cell 1
  have b0 := r9.cell 0
  have b1 := r9.cell 1
  have b2 := r9.cell 2
  have d0 := r11.cell 0
  have d1 := r11.cell 1
  have d2 := r11.cell 2
  have f0 := r14.cell 0
  have f1 := r14.cell 1
  have g0 := r16.cell 0
  have g1 := r16.cell 1
  have l0 := r0.lt
  have l9 := r9.lt
  have l11 := r11.lt
  have l14 := r14.lt
  have l16 := r16.lt
  simp only [List.getElem?_cons_zero, List.getElem?_cons_succ] at a0 a1 b0 b1 b2 d0 d1 d2 f0 f1 g0 g1
  clear hc16 hf16 hal hqd hmd hrd h9d h11d h14d hbd r0 r9 r11 r14 r16 HMc HVc HRc HBc HS9c HS11c HF14
  have KAL : Hid (∀ wx, Below we.heap.size we wx → (wx.cell? ⟨c0, 0, none⟩ = some (.slice A1 n1 c1) ∧ wx.cell? ⟨c0, 1, none⟩ = some (.slice A2 n2 c2) ∧ wx.cell? ⟨c9, 0, none⟩ = some (.int .i64 (k : Nat)) ∧ wx.cell? ⟨c9, 1, none⟩ = some (.int .i64 (i : Nat)) ∧ wx.cell? ⟨c9, 2, none⟩ = some (.int .u64 (o : Nat)) ∧ wx.cell? ⟨c11, 0, none⟩ = some (.int .i64 (k : Nat)) ∧ wx.cell? ⟨c11, 1, none⟩ = some (.int .i64 (i : Nat)) ∧ wx.cell? ⟨c11, 2, none⟩ = some (.int .u64 (o : Nat)) ∧ wx.cell? ⟨c14, 0, none⟩ = some (.int .i64 (y : Nat)) ∧ wx.cell? ⟨c14, 1, none⟩ = some (.int .u64 (q : Nat)) ∧ wx.cell? ⟨c16, 0, none⟩ = some (.int .i64 (y : Nat)) ∧ wx.cell? ⟨c16, 1, none⟩ = some (.int .u64 (q : Nat)))) := Lib.hid (fun wx hb => ⟨(hb.cell (p := ⟨c0, 0, none⟩) l0).trans a0, (hb.cell (p := ⟨c0, 1, none⟩) l0).trans a1, (hb.cell (p := ⟨c9, 0, none⟩) l9).trans b0, (hb.cell (p := ⟨c9, 1, none⟩) l9).trans b1, (hb.cell (p := ⟨c9, 2, none⟩) l9).trans b2, (hb.cell (p := ⟨c11, 0, none⟩) l11).trans d0, (hb.cell (p := ⟨c11, 1, none⟩) l11).trans d1, (hb.cell (p := ⟨c11, 2, none⟩) l11).trans d2, (hb.cell (p := ⟨c14, 0, none⟩) l14).trans f0, (hb.cell (p := ⟨c14, 1, none⟩) l14).trans f1, (hb.cell (p := ⟨c16, 0, none⟩) l16).trans g0, (hb.cell (p := ⟨c16, 1, none⟩) l16).trans g1⟩)
  have HBUS : Hid (∀ wx, Below we.heap.size we wx → Calls Try.prog 10 #[.pointer (some ⟨g, 0, none⟩)] wx (Twinned wx n1 n2 rams devs)) := Lib.hid (fun wx h => by
    have hh := bus_m (HMe.out.below h) (by rw [HM'.out.1]; have := HOK.out.r8; omega) (by rw [HM'.out.2]; have := HOK.out.d32; omega)
    rw [HM'.out.1, HM'.out.2, H1.out.2.1, H2.out.2.1] at hh
    exact hh)
  have HSB : Hid (∀ (wx wt : World) (E1 E2 : Option Addr) (x1 x2 : Nat), Below we.heap.size we wt → Twin wx n1 n2 rams devs E1 E2 x1 x2 wt → Calls Try.prog 17 #[.agg #[.slice E1 n1 x1, .slice E2 n2 x2], .agg #[.slice A1 n1 c1, .slice A2 n2 c2]] wt fun e w' => e = .returned (.bool true) ∧ Below wt.heap.size wt w') := Lib.hid (fun wx wt E1 E2 x1 x2 hb htw => by
    have hbw : Below w.heap.size w wt := HBe.out.trans (hb.mono HBe.out.size)
    exact samebus_yes E1 E2 A1 A2 n1 n2 x1 x2 c1 c2 rams devs wt ⟨htw.own1.isS, htw.own2.isS⟩ ⟨(H1.out.below hbw).more hbw.size, (H2.out.below hbw).more hbw.size⟩)
  have ek : ((k : Int) == (k : Int)) = true := by simp
  have ei : ((i : Int) == (i : Int)) = true := by simp
  have eo : ((o : Int) == (o : Int)) = true := by simp
  have ev : ((v : Int) == (v : Int)) = true := by simp
  have es : (sb == sb) = true := by cases sb <;> rfl
  have ey : ((y : Int) == 0) = sb := HYQ.out
  go_region_held3 (fun wx => wx.cell? ⟨c0, 0, none⟩ = some (.slice A1 n1 c1) ∧ wx.cell? ⟨c0, 1, none⟩ = some (.slice A2 n2 c2) ∧ wx.cell? ⟨c9, 0, none⟩ = some (.int .i64 (k : Nat)) ∧ wx.cell? ⟨c9, 1, none⟩ = some (.int .i64 (i : Nat)) ∧ wx.cell? ⟨c9, 2, none⟩ = some (.int .u64 (o : Nat)) ∧ wx.cell? ⟨c11, 0, none⟩ = some (.int .i64 (k : Nat)) ∧ wx.cell? ⟨c11, 1, none⟩ = some (.int .i64 (i : Nat)) ∧ wx.cell? ⟨c11, 2, none⟩ = some (.int .u64 (o : Nat)) ∧ wx.cell? ⟨c14, 0, none⟩ = some (.int .i64 (y : Nat)) ∧ wx.cell? ⟨c14, 1, none⟩ = some (.int .u64 (q : Nat)) ∧ wx.cell? ⟨c16, 0, none⟩ = some (.int .i64 (y : Nat)) ∧ wx.cell? ⟨c16, 1, none⟩ = some (.int .u64 (q : Nat)))
    (first | exact ⟨a0, a1, b0, b1, b2, d0, d1, d2, f0, f1, g0, g1⟩ | exact KAL.out _ (by (first | exact (Below.refl _ _).drew | exact HBT.out | exact HBS.out | exact HBF.out)))
    (first
      | (go_at_call 10; refine (HBUS.out _ (Below.refl _ _).drew).mono ?_; rintro e wt ⟨E1, E2, x1, x2, rfl, htw⟩; have HBT : Hid (Below we.heap.size we wt) := Lib.hid (bel_chain (Below.refl _ _).drew htw.bel); have HTW := Lib.hid htw; clear htw)
      | (go_at_call 17; refine (HSB.out _ _ _ _ _ _ HBT.out HTW.out).mono ?_; rintro e ws ⟨rfl, hbs⟩; have HBS : Hid (Below we.heap.size we ws) := Lib.hid (bel_chain HBT.out hbs); clear hbs)
      | (go_at_call 18; refine (samef_any y q _).mono ?_; rintro e wf ⟨rfl, hbf⟩; have HBF : Hid (Below we.heap.size we wf) := Lib.hid (bel_chain HBS.out hbf); clear hbf))
  all_goals
    have HBZ : Hid (Below w.heap.size w wf) := Lib.hid (HBe.out.trans (HBF.out.mono HBe.out.size))
    go_wp2_with fail
    go_ret
    exact ⟨by first | rfl | trivial, HBZ.out⟩
end Bu
end Go.Proofs.Ytmhkmemaneopeaa
