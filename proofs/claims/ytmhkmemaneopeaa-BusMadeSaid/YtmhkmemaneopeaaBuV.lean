/- The walks of Bus, the meter, Kept, Where. -/
import Derived.Test.YtmhkmemaneopeaaBuU
set_option linter.unusedVariables false
set_option linter.unusedSimpArgs false
namespace Go.Proofs.Ytmhkmemaneopeaa
open Go.RowKit
open S64
namespace Bu
theorem Twin.base {w w1 wb : World} {n1 n2 : Nat} {s1 s2 : Sp.S} {E1 E2 : Option Addr} {d1 d2 : Nat} (h : Twin w1 n1 n2 s1 s2 E1 E2 d1 d2 wb) (hb : Below w.heap.size w w1) : Twin w n1 n2 s1 s2 E1 E2 d1 d2 wb :=
  ⟨h.own1.mono hb.size, h.own2.mono hb.size, h.cap1, h.cap2, h.nil1, h.nil2, h.apart, hb.trans (h.bel.mono hb.size)⟩
set_option maxRecDepth 100000 in
set_option maxHeartbeats 1000000 in
theorem bus_any (Z R : Nat → Prop) (M : PM) (A1 A2 Ao : Option Addr) (x1 x2 no co b : Nat) (pm : Nat → Option Nat) (sp : Sp.S) (g : Nat) (w : World)
    (hm : MachAt Z R w g M A1 A2 Ao x1 x2 no co b pm sp) (b1 : M.rams.length ≤ 1000000) (b2 : M.devs.length ≤ 1000000) :
    Calls Try.prog 10 #[.pointer (some ⟨g, 0, none⟩)] w (Twinned w M.rams.length M.devs.length M.rams M.devs) := by
  obtain ⟨n1, hn1⟩ : ∃ n1, n1 = M.rams.length := ⟨_, rfl⟩
  obtain ⟨n2, hn2⟩ : ∃ n2, n2 = M.devs.length := ⟨_, rfl⟩
  obtain ⟨s1, hs1⟩ : ∃ s1, s1 = M.rams := ⟨_, rfl⟩
  obtain ⟨s2, hs2⟩ : ∃ s2, s2 = M.devs := ⟨_, rfl⟩
  have hr := hm.row
  have h1 := hm.l1.1
  have h2 := hm.l2.1
  rw [← hn1, ← hn2] at hr
  rw [← hn1, ← hs1] at h1
  rw [← hn2, ← hs2] at h2
  rw [← hn1, ← hn2, ← hs1, ← hs2]
  rw [← hn1] at b1
  rw [← hn2] at b2
  have hb0 : Below w.heap.size w (w.alloc (.cells #[.slice none 0 0, .slice none 0 0] 24)) := (Below.refl _ _).alloc (Nat.le_refl _) _
  have h1' := (h1.below hb0).more hb0.size
  have h2' := (h2.below hb0).more hb0.size
  have r1 := Row.new w 24 [.slice none 0 0, .slice none 0 0]
  have hrw := hr.below hb0 hr.lt
  clear hm hr h1 h2 hn1 hn2 hs1 hs2
  have HB1 := Lib.hid b1; have HB2 := Lib.hid b2
  clear b1 b2
  go_enter Try.func10, Try.ntmps10
  go_upto_region 1 with fail
  have H1 := Lib.hid h1'; have H2 := Lib.hid h2'; have HB0 := Lib.hid hb0; have R1 := Lib.hid r1
  generalize w.alloc (.cells #[.slice none 0 0, .slice none 0 0] 24) = w1 at *
  have p0 := hrw.cell 3
  have p1 := hrw.cell 4
  have lg := hrw.lt
  have lr := r1.lt
  simp only [List.getElem?_cons_zero, List.getElem?_cons_succ] at p0 p1
  clear hrw h1' h2' hb0 r1
  go_wp2_with fail
  refine (twin_any A1 A2 n1 n2 x1 x2 s1 s2 w1 H1.out H2.out HB1.out HB2.out).mono ?_
  rintro e w2 ⟨E1, E2, d1, d2, rfl, ht⟩
  have HT := Lib.hid ht
  clear ht
  have hr2 := R1.out.below HT.out.bel lr
  have q0 := hr2.cell 0
  have q1 := hr2.cell 1
  have f0 := hr2.frozen 0
  have f1 := hr2.frozen 1
  have lq := hr2.lt
  have HR2 := Lib.hid hr2
  simp only [List.getElem?_cons_zero, List.getElem?_cons_succ] at q0 q1
  clear hr2
  go_wp2_with fail
  have hr2 := (HR2.out.set_ 0 (.slice E1 n1 d1)).set_ 1 (.slice E2 n2 d2)
  have z0 := hr2.cell 0
  have z1 := hr2.cell 1
  simp only [List.set_cons_zero, List.set_cons_succ, List.getElem?_cons_zero, List.getElem?_cons_succ] at z0 z1
  have HT2 : Twin w n1 n2 s1 s2 E1 E2 d1 d2 ((w2.setCell ⟨w.heap.size, 0, none⟩ (.slice E1 n1 d1)).setCell ⟨w.heap.size, 1, none⟩ (.slice E2 n2 d2)) := HT.out.over HB0.out HR2.out (Nat.le_refl _) _ _
  refine bodyPost_ret (v := .agg #[.slice E1 n1 d1, .slice E2 n2 d2]) (by simp [results, Try.results10, go_sem, z0, z1]) rfl ⟨E1, E2, d1, d2, rfl, HT2⟩
theorem loads_any (Z R : Nat → Prop) (M : PM) (A1 A2 Ao : Option Addr) (x1 x2 no co b : Nat) (pm : Nat → Option Nat) (sp : Sp.S) (g : Nat) (w : World) (hm : MachAt Z R w g M A1 A2 Ao x1 x2 no co b pm sp) :
    Calls Try.prog 30 #[.pointer (some ⟨g, 0, none⟩)] w fun e w' => e = .returned (.int .i64 (M.loads : Nat)) ∧ w = w' := by
  have p0 := hm.row.cell 0
  have lg := hm.row.lt
  simp only [List.getElem?_cons_zero, List.getElem?_cons_succ] at p0
  clear hm
  go_enter Try.func30, Try.ntmps30
  go_wp2_with fail
  go_ret
  exact ⟨rfl, rfl⟩
theorem stores_any (Z R : Nat → Prop) (M : PM) (A1 A2 Ao : Option Addr) (x1 x2 no co b : Nat) (pm : Nat → Option Nat) (sp : Sp.S) (g : Nat) (w : World) (hm : MachAt Z R w g M A1 A2 Ao x1 x2 no co b pm sp) :
    Calls Try.prog 31 #[.pointer (some ⟨g, 0, none⟩)] w fun e w' => e = .returned (.int .i64 (M.stores : Nat)) ∧ w = w' := by
  have p0 := hm.row.cell 1
  have lg := hm.row.lt
  simp only [List.getElem?_cons_zero, List.getElem?_cons_succ] at p0
  clear hm
  go_enter Try.func31, Try.ntmps31
  go_wp2_with fail
  go_ret
  exact ⟨rfl, rfl⟩
theorem strays_any (Z R : Nat → Prop) (M : PM) (A1 A2 Ao : Option Addr) (x1 x2 no co b : Nat) (pm : Nat → Option Nat) (sp : Sp.S) (g : Nat) (w : World) (hm : MachAt Z R w g M A1 A2 Ao x1 x2 no co b pm sp) :
    Calls Try.prog 28 #[.pointer (some ⟨g, 0, none⟩)] w fun e w' => e = .returned (.int .i64 (M.strays : Nat)) ∧ w = w' := by
  have p0 := hm.row.cell 2
  have lg := hm.row.lt
  simp only [List.getElem?_cons_zero, List.getElem?_cons_succ] at p0
  clear hm
  go_enter Try.func28, Try.ntmps28
  go_wp2_with fail
  go_ret
  exact ⟨rfl, rfl⟩
theorem MachAt.some_iff {Z R : Nat → Prop} {w : World} {g : Nat} {M : PM} {A1 A2 Ao : Option Addr} {c1 c2 no co b : Nat} {pm : Nat → Option Nat} {sp : Sp.S} (h : MachAt Z R w g M A1 A2 Ao c1 c2 no co b pm sp) (k : Nat) : (pm k).isSome = true ↔ nz M.mem k := by
  cases hk : pm k with
  | none =>
    constructor
    · intro h; cases h
    · rintro ⟨i, hi, hn⟩; exact absurd (h.zero k hk i hi) hn
  | some p => exact ⟨fun _ => (h.leaf k p hk).2.2, fun _ => rfl⟩
set_option maxRecDepth 100000 in
theorem kept_any (Z R : Nat → Prop) (M : PM) (A1 A2 Ao : Option Addr) (x1 x2 no co b : Nat) (pm : Nat → Option Nat) (sp : Sp.S) (g : Nat) (ks : List Nat) (w : World) (hm : MachAt Z R w g M A1 A2 Ao x1 x2 no co b pm sp) (hn : ks.Nodup) (hk : ∀ k, k ∈ ks ↔ nz M.mem k) :
    Calls Try.prog 11 #[.pointer (some ⟨g, 0, none⟩)] w fun e w' => e = .returned (.int .i64 (ks.length : Nat)) ∧ w = w' := by
  have p0 := hm.row.cell 6
  have lg := hm.row.lt
  obtain ⟨D, n, ho, hp⟩ := hm.map.1
  have hsz := hp.size (ho.canon keyed64) ks hn (fun k => by rw [hk k, hm.some_iff k])
  simp only [List.getElem?_cons_zero, List.getElem?_cons_succ] at p0
  have HO := Lib.hid ho; have HS := Lib.hid hsz
  clear hm hn hk ho hp hsz
  go_enter Try.func11, Try.ntmps11
  go_wp2_with (at_len; refine wpList_len_own _ rfl _ 68 rfl 25 104 Try.underlying68 _ b n D rfl HO.out ?_)
  go_ret
  exact ⟨by rw [HS.out]; rfl, rfl⟩
/-- does a range hold an address? -/
def inR (at_ : Nat) (r : Nat × Nat) : Bool := decide (r.1 ≤ at_ ∧ at_ < r.1 + r.2)
/-- the k-th of the lists that Where goes through -/
def lst3 (M : PM) (k : Nat) : List (Nat × Nat) := match k with
  | 1 => M.rams
  | 2 => M.devs
  | _ => []
/-- where an address lies, the lists from the (3 - f)-th on asked -/
def spotF (M : PM) (at_ : Nat) : Nat → Option (Nat × Nat × Nat)
  | 0 => none
  | f + 1 => match (lst3 M (2 - f)).findIdx? (inR at_) with
    | some i => some (2 - f, i, at_ - ((lst3 M (2 - f)).getD i (0, 0)).1)
    | none => spotF M at_ f
def spotV : Option (Nat × Nat × Nat) → Value
  | some (k, i, o) => .agg #[.int .i64 (k : Nat), .int .i64 (i : Nat), .int .u64 (o : Nat)]
  | none => .agg #[.int .i64 0, .int .i64 0, .int .u64 0]
theorem spotF_found {M : PM} {at_ k i : Nat} {r : Nat × Nat} (hk : k < 3) (hi : (lst3 M k)[i]? = some r) (hr : inR at_ r = true) (hb : ∀ (j : Nat) (x : Nat × Nat), j < i → (lst3 M k)[j]? = some x → inR at_ x = false) : spotF M at_ (3 - k) = some (k, i, at_ - r.1) := by
  obtain ⟨f, hf⟩ : ∃ f, 3 - k = f + 1 := ⟨2 - k, by omega⟩
  rw [hf, spotF, show 2 - f = k by omega]
  have : (lst3 M k).findIdx? (inR at_) = some i := by
    rw [List.findIdx?_eq_some_iff_getElem]
    obtain ⟨hl, he⟩ := List.getElem?_eq_some_iff.1 hi
    refine ⟨hl, by rw [he]; exact hr, fun j hj => ?_⟩
    have := hb j _ hj (List.getElem?_eq_getElem (by omega))
    rw [this]; decide
  rw [this]
  simp only [List.getD_eq_getElem?_getD, hi, Option.getD_some]
theorem spotF_next {M : PM} {at_ k : Nat} (hk : k < 3) (hb : ∀ (j : Nat) (x : Nat × Nat), (lst3 M k)[j]? = some x → inR at_ x = false) : spotF M at_ (3 - k) = spotF M at_ (3 - (k + 1)) := by
  obtain ⟨f, hf⟩ : ∃ f, 3 - k = f + 1 := ⟨2 - k, by omega⟩
  rw [hf, spotF, show 2 - f = k by omega, show 3 - (k + 1) = f by omega]
  have : (lst3 M k).findIdx? (inR at_) = none := by
    rw [List.findIdx?_eq_none_iff]
    intro x hx
    obtain ⟨j, hj⟩ := List.getElem?_of_mem hx
    exact hb j x hj
  rw [this]
/-- what Where tells -/
def WhereSaid (w : World) (s : Option (Nat × Nat × Nat)) (e : Ending) (w' : World) : Prop := e = .returned (.tuple #[spotV s, .bool s.isSome]) ∧ Below w.heap.size w w'
/-- a range of the machine ends below 2^32 -/
theorem MachAt.ends {Z R : Nat → Prop} {w : World} {g : Nat} {M : PM} {A1 A2 Ao : Option Addr} {c1 c2 no co b : Nat} {pm : Nat → Option Nat} {sp : Sp.S} (h : MachAt Z R w g M A1 A2 Ao c1 c2 no co b pm sp) {k : Nat} {r : Nat × Nat} (hr : r ∈ lst3 M k) : r.2 = 0 ∨ r.1 + r.2 ≤ 4294967296 := by
  rcases Nat.eq_zero_or_pos r.2 with h0 | h0
  · exact .inl h0
  refine .inr ?_
  have hm : r ∈ M.rams ++ M.devs := by
    unfold lst3 at hr
    split at hr
    · exact List.mem_append_left _ hr
    · exact List.mem_append_right _ hr
    · cases hr
  have := h.lim (r.1 + r.2 - 1) (List.any_eq_true.2 ⟨r, hm, by simp; omega⟩)
  omega
set_option maxRecDepth 100000 in
set_option maxHeartbeats 2000000 in
theorem where_any (Z R : Nat → Prop) (M : PM) (A1 A2 Ao : Option Addr) (x1 x2 no co b : Nat) (pm : Nat → Option Nat) (sp : Sp.S) (at_ g : Nat) (w : World)
    (hm : MachAt Z R w g M A1 A2 Ao x1 x2 no co b pm sp) (ha : at_ ≤ TOP) :
    Calls Try.prog 13 #[.pointer (some ⟨g, 0, none⟩), .int .u64 (at_ : Nat)] w (WhereSaid w (spotF M at_ 3)) := by
  have HM := Lib.hid hm
  have HA := Lib.hid ha
  clear hm ha
  go_enter Try.func13, Try.ntmps13
  go_upto_region 1 with fail
  have r0 : Row (w.alloc (.cells #[.int .i64 0, .int .i64 0, .int .u64 0] 37)) w.heap.size 37 [.int .i64 0, .int .i64 0, .int .u64 0] := Row.new w _ [.int .i64 0, .int .i64 0, .int .u64 0]
  have hb0 : Below w.heap.size w (w.alloc (.cells #[.int .i64 0, .int .i64 0, .int .u64 0] 37)) := (Below.refl _ _).alloc (Nat.le_refl _) _
  generalize w.alloc (.cells #[.int .i64 0, .int .i64 0, .int .u64 0] 37) = w1 at *
  have hrw := HM.out.row.below hb0 HM.out.row.lt
  have p0 := hrw.cell 3
  have p1 := hrw.cell 4
  have lg := hrw.lt
  have lr := r0.lt
  simp only [List.getElem?_cons_zero, List.getElem?_cons_succ] at p0 p1
  have HB0 := Lib.hid hb0; have HR0 := Lib.hid r0
  clear hb0 r0 hrw
  go_region_held3 (fun w' => w'.cell? ⟨g, 3, none⟩ = some (.slice A1 M.rams.length x1) ∧ w'.cell? ⟨g, 4, none⟩ = some (.slice A2 M.devs.length x2))
    (first | exact ⟨p0, p1⟩ | exact ⟨(World.cell?_alloc_lt _ _ ⟨g, 3, none⟩ lg).trans p0, (World.cell?_alloc_lt _ _ ⟨g, 4, none⟩ lg).trans p1⟩)
    (fail)
  rename_i hh
  clear hh
  have hb2 : Below w.heap.size w (w1.alloc (.cells #[.slice none 0 0, .slice A1 M.rams.length x1, .slice A2 M.devs.length x2] 22)).drew := (HB0.out.alloc HB0.out.size _).drew
  have hr2 : Row (w1.alloc (.cells #[.slice none 0 0, .slice A1 M.rams.length x1, .slice A2 M.devs.length x2] 22)).drew w.heap.size 37 [.int .i64 0, .int .i64 0, .int .u64 0] := (HR0.out.alloc _).drew
  have hr3 : Row (w1.alloc (.cells #[.slice none 0 0, .slice A1 M.rams.length x1, .slice A2 M.devs.length x2] 22)).drew w1.heap.size 22 [.slice none 0 0, .slice A1 M.rams.length x1, .slice A2 M.devs.length x2] := (Row.new w1 _ [.slice none 0 0, .slice A1 M.rams.length x1, .slice A2 M.devs.length x2]).drew
  obtain ⟨b3, hb3⟩ : ∃ b3, b3 = w1.heap.size := ⟨_, rfl⟩
  rw [← hb3] at hr3 ⊢
  generalize (w1.alloc (.cells #[.slice none 0 0, .slice A1 M.rams.length x1, .slice A2 M.devs.length x2] 22)).drew = w2 at *
  have HB2 := Lib.hid hb2; have HR2 := Lib.hid hr2; have HR3 := Lib.hid hr3
  have HM2 : Hid (MachAt Z R w2 g M A1 A2 Ao x1 x2 no co b pm sp) := Lib.hid (HM.out.below hb2)
  have HROW : Hid (∀ k, k < 3 → ∃ A n c, [Value.slice none 0 0, .slice A1 M.rams.length x1, .slice A2 M.devs.length x2][k]? = some (.slice A n c) ∧ IsS w2 w2.heap.size A n (lst3 M k) ∧ n ≤ c ∧ c ≤ 9223372036854775807) := Lib.hid (fun k hk => by
    match k, hk with
    | 0, _ => exact ⟨none, 0, 0, rfl, IsS.none_, by omega, by omega⟩
    | 1, _ => exact ⟨A1, _, x1, rfl, HM2.out.l1.1, HM2.out.l1.2.1, HM2.out.l1.2.2.1⟩
    | 2, _ => exact ⟨A2, _, x2, rfl, HM2.out.l2.1, HM2.out.l2.2.1, HM2.out.l2.2.2.1⟩)
  have HLT : Hid (w.heap.size < w2.heap.size ∧ b3 < w2.heap.size) := Lib.hid ⟨hr2.lt, hr3.lt⟩
  have HAT : at_ ≤ 18446744073709551615 := HA.out
  clear p0 p1 lg lr hb2 hr2 hr3 hb3 HR0 HB0
  go_wp2_with fail
  go_loopw [22] (fun i wr => ∃ k : Nat, k ≤ 3 ∧ i = .int .i64 (k : Nat) ∧ Hid (Below w2.heap.size w2 wr) ∧ Hid (spotF M at_ 3 = spotF M at_ (3 - k))) (fun i _ => 3 - (intOf i).toNat)
  case atStart => exact ⟨0, by omega, rfl, Lib.hid (Below.refl _ _), Lib.hid rfl⟩
  case round =>
    obtain ⟨k, hk, rfl, HBR, HSP⟩ := hrel
    by_cases hk3 : k < 3
    · obtain ⟨A, n, c, hcell, his, hnc, hc63⟩ := HROW.out k hk3
      have hr3 := HR3.out.below HBR.out HLT.out.2
      have q3 := hr3.cell k
      rw [hcell] at q3
      have l3 := hr3.lt
      have HIS := Lib.hid his
      have hn63 := his.2.2
      clear hr3 hcell his
      obtain ⟨wo, hwo⟩ : ∃ wo : World, wo = wr := ⟨_, rfl⟩
      subst hwo
      go_wp2_with fail
      go_loopw [29] (fun i wx => ∃ j : Nat, j ≤ n ∧ i = .int .i64 (j : Nat) ∧ Hid (Below w2.heap.size w2 wx) ∧ Hid (∀ (j' : Nat) (x : Nat × Nat), j' < j → (lst3 M k)[j']? = some x → inR at_ x = false)) (fun i _ => n - (intOf i).toNat)
      case atStart => exact ⟨0, by omega, rfl, HBR, Lib.hid (fun j' x h => absurd h (by omega))⟩
      case round =>
        obtain ⟨j, hj, rfl, HBX, HNO⟩ := hrel
        by_cases hjn : j < n
        · obtain ⟨bb, off, hf⟩ := (HIS.out.below HBX.out).form
          obtain ⟨hA, hbB, hcc⟩ := hf.out (by omega)
          subst hA
          obtain ⟨⟨a, s⟩, hx⟩ : ∃ x, (lst3 M k)[j]? = some x := ⟨_, List.getElem?_eq_getElem (by have := HIS.out.2.1; omega)⟩
          obtain ⟨x0, xs⟩ := hcc j _ hx
          simp only at x0 xs
          have lb : bb < wr.heap.size := Nat.lt_of_lt_of_le hbB HBX.out.size
          have HX := Lib.hid hx
          have HEND := Lib.hid (HM.out.ends (List.mem_of_getElem? hx))
          have hs32 : s ≤ 4294967296 := by rcases HEND.out with h | h <;> (simp only at h; omega)
          clear hf hcc hx
          go_upto_region 7 with fail
          have hrx : Row (wr.alloc (.cells #[.int .u64 (a : Nat), .int .u64 (s : Nat)] 31)) wr.heap.size 31 [.int .u64 (a : Nat), .int .u64 (s : Nat)] := Row.new wr _ [.int .u64 (a : Nat), .int .u64 (s : Nat)]
          have hbx : Below w2.heap.size w2 (wr.alloc (.cells #[.int .u64 (a : Nat), .int .u64 (s : Nat)] 31)) := HBX.out.alloc HBX.out.size _
          obtain ⟨cx, hcx⟩ : ∃ cx, cx = wr.heap.size := ⟨_, rfl⟩
          rw [← hcx] at hrx ⊢
          clear hcx x0 xs lb
          generalize wr.alloc (.cells #[.int .u64 (a : Nat), .int .u64 (s : Nat)] 31) = w4 at *
          have x0 := hrx.cell 0
          have x1' := hrx.cell 1
          have lx := hrx.lt
          simp only [List.getElem?_cons_zero, List.getElem?_cons_succ] at x0 x1'
          have HB4 := Lib.hid hbx
          clear hrx hbx
          by_cases hin : a ≤ at_ ∧ at_ < a + s
          · have HSF : Hid (spotF M at_ 3 = some (k, j, at_ - a)) := Lib.hid (by rw [HSP.out]; exact spotF_found hk3 HX.out (by unfold inR; exact decide_eq_true hin) HNO.out)
            have h1 : a ≤ at_ := hin.1
            have h2 : at_ - a < s := by omega
            have h3 : (at_ : Int) - (a : Int) < (s : Int) := by omega
            have hr4 := HR2.out.below HB4.out HLT.out.1
            have q0 := hr4.cell 0
            have q1 := hr4.cell 1
            have q2 := hr4.cell 2
            have f0 := hr4.frozen 0
            have f1 := hr4.frozen 1
            have f2 := hr4.frozen 2
            have lr := hr4.lt
            simp only [List.getElem?_cons_zero, List.getElem?_cons_succ] at q0 q1 q2
            have HR4 := Lib.hid hr4
            have HAA : Hid ((at_ : Int) - (a : Int) = ((at_ - a : Nat) : Int)) := Lib.hid (by omega)
            clear hin hr4
            go_wp2_with fail
            have hr5 := ((HR4.out.set_ 0 (.int .i64 (k : Nat))).set_ 1 (.int .i64 (j : Nat))).set_ 2 (.int .u64 ((at_ : Int) - (a : Int)))
            have z0 := hr5.cell 0
            have z1 := hr5.cell 1
            have z2 := hr5.cell 2
            simp only [List.set_cons_zero, List.set_cons_succ, List.getElem?_cons_zero, List.getElem?_cons_succ] at z0 z1 z2
            refine bodyPost_ret (v := .tuple #[.agg #[.int .i64 (k : Nat), .int .i64 (j : Nat), .int .u64 ((at_ : Int) - (a : Int))], .bool true]) (by simp [results, Try.results13, go_sem, z0, z1, z2]) rfl ⟨by rw [HSF.out, HAA.out]; rfl, (((HB2.out.trans (HB4.out.mono HB2.out.size)).setCell (p := ⟨w.heap.size, 0, none⟩) (Nat.le_refl _) _).setCell (p := ⟨w.heap.size, 1, none⟩) (Nat.le_refl _) _).setCell (p := ⟨w.heap.size, 2, none⟩) (Nat.le_refl _) _⟩
          · have HNO2 : Hid (∀ (j' : Nat) (x : Nat × Nat), j' < j + 1 → (lst3 M k)[j']? = some x → inR at_ x = false) := Lib.hid (fun j' x h hx => by
              rcases Nat.lt_or_ge j' j with h1 | h1
              · exact HNO.out j' x h1 hx
              · obtain rfl : j' = j := by omega
                rw [HX.out] at hx; injection hx with hx; subst hx
                unfold inR; exact decide_eq_false hin)
            by_cases h1 : a ≤ at_
            · have h3 : (s : Int) ≤ (at_ : Int) - (a : Int) := by omega
              clear hin
              go_wp2_with fail
              go_roundw
              case rel => exact ⟨j + 1, by omega, by go_num, HB4, HNO2⟩
              case measure => simp [intOf]; omega
            · obtain ⟨d, hd⟩ : ∃ d, d = (((at_ : Int) - (a : Int)) % 18446744073709551616).toNat := ⟨_, rfl⟩
              have e1 : IntKind.u64.wrap ((at_ : Int) - (a : Int)) = (d : Int) := by rw [IntKind.wrap_u64]; omega
              have h3 : s ≤ d := by rcases HEND.out with h | h <;> (simp only at h; omega)
              clear hin hd
              go_wp2_with fail
              go_roundw
              case rel => exact ⟨j + 1, by omega, by go_num, HB4, HNO2⟩
              case measure => simp [intOf]; omega
        · have HJN : Hid (j = n) := Lib.hid (by omega)
          have HSP2 : Hid (spotF M at_ 3 = spotF M at_ (3 - (k + 1))) := Lib.hid (by
            rw [HSP.out]
            refine spotF_next hk3 (fun j' x hx => HNO.out j' x ?_ hx)
            have := (List.getElem?_eq_some_iff.1 hx).1
            have := HIS.out.2.1; have := HJN.out
            omega)
          go_wp2_with fail
          go_roundw
          case rel => exact ⟨k + 1, by omega, by go_num, HBX, HSP2⟩
          case measure => simp [intOf]; omega
    · have HSF : Hid (spotF M at_ 3 = none) := Lib.hid (by rw [HSP.out, show 3 - k = 0 by omega]; rfl)
      have hr4 := HR2.out.below HBR.out HLT.out.1
      have q0 := hr4.cell 0
      have q1 := hr4.cell 1
      have q2 := hr4.cell 2
      have f0 := hr4.frozen 0
      have f1 := hr4.frozen 1
      have f2 := hr4.frozen 2
      have lr := hr4.lt
      simp only [List.getElem?_cons_zero, List.getElem?_cons_succ] at q0 q1 q2
      have HR4 := Lib.hid hr4
      clear hr4
      go_wp2_with fail
      have hr5 := ((HR4.out.set_ 0 (.int .i64 0)).set_ 1 (.int .i64 0)).set_ 2 (.int .u64 0)
      have z0 := hr5.cell 0
      have z1 := hr5.cell 1
      have z2 := hr5.cell 2
      simp only [List.set_cons_zero, List.set_cons_succ, List.getElem?_cons_zero, List.getElem?_cons_succ] at z0 z1 z2
      refine bodyPost_ret (v := .tuple #[.agg #[.int .i64 0, .int .i64 0, .int .u64 0], .bool false]) (by simp [results, Try.results13, go_sem, z0, z1, z2]) rfl ⟨by rw [HSF.out]; rfl, (((HB2.out.trans (HBR.out.mono HB2.out.size)).setCell (p := ⟨w.heap.size, 0, none⟩) (Nat.le_refl _) _).setCell (p := ⟨w.heap.size, 1, none⟩) (Nat.le_refl _) _).setCell (p := ⟨w.heap.size, 2, none⟩) (Nat.le_refl _) _⟩
end Bu
end Go.Proofs.Ytmhkmemaneopeaa
